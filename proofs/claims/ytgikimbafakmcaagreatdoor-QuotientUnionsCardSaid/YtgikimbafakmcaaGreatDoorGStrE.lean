/-
  Lemmas.
-/
import Derived.Test.YtgikimbafakmcaaGreatDoorGStrC
import Derived.Test.YtgikimbafakmcaaGreatDoorGSameInts
import Derived.Deep.RegionHeld3
set_option maxHeartbeats 8000000
set_option maxRecDepth 100000
namespace Go.Proofs.YtgikimbafakmcaaGreatDoor
open Go.RowKit Pl
open Lib (hid)
def hpK (hp : Nat -> Nat) (H : Nat) (L : List Nat) (k : Nat) : Nat -> Nat := fun p => if p ∈ L.take k then H else hp p
theorem hpK_step {hp : Nat -> Nat} {H : Nat} {L : List Nat} {k t : Nat} (h : L[k]? = some t) : upd (hpK hp H L k) t H = hpK hp H L (k + 1) := by
 funext p
 unfold upd hpK
 have hm : p ∈ L.take (k + 1) ↔ p ∈ L.take k ∨ p = t := by rw [take_snoc h]; simp
 by_cases e : p = t
 · subst e; rw [if_pos rfl, if_pos (hm.2 (.inr rfl))]
 · rw [if_neg e]
   by_cases e2 : p ∈ L.take k
   · rw [if_pos e2, if_pos (hm.2 (.inl e2))]
   · rw [if_neg e2, if_neg (fun h => by rcases hm.1 h with h | h <;> contradiction)]
theorem memN_snoc (f : Nat -> Nat) (b k : Nat) : memN (k + 1) f b = memN k f b ++ (if f k = b then [k] else []) := by
 unfold memN
 rw [List.range_succ, List.filter_append]
 congr 1
 by_cases h : f k = b <;> simp [h]
section
variable {w0 w : World} {s : Lts} {K : PK} {S : SK} {n : Nat} {el pl inn : Nat -> Nat} {bl : List B3} {hp ga : Nat -> Nat} {sz : List Int} {tl : List Value} {rest : List Rw}
def TakePost (w0 : World) (s : Lts) (K : PK) (S : SK) (n : Nat) (inn hp ga : Nat -> Nat) (sz : List Int) (tl : List Value) (rest : List Rw) (L : List Nat) (h : Nat) (v : Value) (e : Ending) (w' : World) : Prop :=
  e = .returned (.tuple #[]) /\ ∃ (K' : PK) (S' : SK) (el' pl' inn1 inn2 : Nat -> Nat) (bl' : List B3) (sh : Int),
    sz[h]? = some sh /\ SW w0 w' s K' S' n el' pl' inn2 bl' (fun p => if p ∈ L then sz.length else hp p) (fun p => if p ∈ L then ga p + 1 else ga p) ((sz ++ [(L.length : Int)]).set h (sh - L.length)) (tl ++ [v]) rest /\
    K'.pb = K.pb /\ S'.xb = S.xb /\ (∀ z, z < n -> ¬ Mkd pl' inn2 bl' z) /\ SplitBy s n (· ∈ L) inn inn1 /\ SplitBy s n (· ∈ memN n (fun p => if p ∈ L then sz.length else hp p) h) inn1 inn2
theorem take_any (h : SW w0 w s K S n el pl inn bl hp ga sz tl rest) (hun : ∀ z, z < n -> ¬ Mkd pl inn bl z) (hga : ∀ p, p < n -> ga p <= 1000000) (htl : tl.length <= 1000000) (hsl : sz.length <= 1000)
    {L : List Nat} (hL : ∀ t ∈ L, t < n) (hnd : L.Nodup) {p0 : Nat} (hp0 : L[0]? = some p0) {sh : Int} (hsh : sz[hp p0]? = some sh) (hshr : 0 <= sh /\ sh <= 1000000) {ia : Option Addr} {ib io ic : Nat}
    (hI : ∀ w', Rws w0 w' rest -> SlAt encI 1 w' ia ib io (L.map Int.ofNat)) :
    Calls Tryz.prog 111 #[.pointer (some ⟨S.xb, 0, none⟩), .slice ia L.length ic] w (TakePost w0 s K S n inn hp ga sz tl rest L (hp p0) (.slice ia L.length ic)) := by
 have hn1 := h.par.n1
 have hLl : L.length <= 1000 := by
   have := nodup_le (l := L) (m := List.range n) hnd (fun x hx => by simpa using hL x hx)
   rw [List.length_range] at this; omega
 have hLp : 0 < L.length := (List.getElem?_eq_some_iff.1 hp0).1
 have hpn := hL p0 (List.mem_of_getElem? hp0)
 have hhl := (List.getElem?_eq_some_iff.1 hsh).1
 have H := hid h; have HUN := hid hun; have HGA := hid hga; have HL := hid hL; have HND := hid hnd; have HI := hid hI; have HSH := hid hsh
 obtain ⟨c0, c1, c2, c3, c4, c5, c6, xl⟩ := h.run.sCells
 have hsl0 := hI w (h.run.sub (List.sublist_append_right _ _))
 have hpos : 0 < (L.map Int.ofNat).length := by rw [List.length_map]; exact hLp
 obtain rfl := hsl0.ad hpos
 have d0 := hsl0.ci (i := 0) (x := (p0 : Int)) (by rw [List.getElem?_map, hp0]; rfl)
 have dl := hsl0.lt hpos
 have d1 := h.run.sHp hpn
 have l1 := h.run.sLts.1
 have HT := hid (fun w' (hw : Rws w0 w' (SR S K.pb n hp ga sz tl ++ (PR K n el pl inn bl ++ rest))) => took_any hw hL hnd hLl hga htl (ia := some ⟨ib, io, none⟩) (ib := ib) (io := io) (ic := ic) (fun w' hw => hI w' (hw.sub (List.sublist_append_right _ _))))
 obtain ⟨hh, hhh⟩ : ∃ hh, hh = hp p0 := ⟨_, rfl⟩
 obtain ⟨ll, hll⟩ : ∃ ll, ll = L.length := ⟨_, rfl⟩
 obtain ⟨hz, hzz⟩ : ∃ hz, hz = sz.length := ⟨_, rfl⟩
 rw [<- hhh] at d1 hhl HSH ⊢
 rw [<- hll] at HT hLl hLp ⊢
 rw [<- hzz] at hsl hhl
 have HLL := hid hll; have HZZ := hid hzz; have HHH := hid hhh
 have hpI : (p0 : Int) < (n : Int) := by omega
 have hs1 := hshr.1; have hs2 := hshr.2
 simp only [Nat.add_zero] at d0
 clear h hun hga hL hnd hI hsh hsl0 hpos hp0 c0 c1 c3 c4 c5 c6 hhh hll hzz hshr
 go_enter Tryz.func111, Tryz.ntmps111
 go_wp2_with fail
 go_quiet (fail)
 have HT2 := hid (HT.out _ ((Rws.swap (H.out.par.rws)).drewN nq))
 clear c2 d0 dl d1 l1 HT xl
 go_wp2_with fail
 refine HT2.out.mono ?_
 unfold TookPost
 rintro e w2 ⟨rfl, ta, tc, hr2⟩
 have HR2 := hid hr2
 clear hr2 HT2
 go_wp2_with fail
 go_loopw [6, 24] (fun _ v24 wr => ∃ k : Nat, v24 = .int .i64 k /\ k <= ll /\ Rws w0 wr (SR { S with ta := ta, tc := tc } K.pb n (hpK hp hz L k) (fun p => if p ∈ L then ga p + 1 else ga p) sz (tl ++ [.slice (some ⟨ib, io, none⟩) ll ic]) ++ (PR K n el pl inn bl ++ rest))) (fun _ v24 _ => ll - (intOf v24).toNat)
 case atStart => exact ⟨0, rfl, Nat.zero_le _, by rw [show hpK hp hz L 0 = hp from funext fun p => by simp [hpK]]; exact HR2.out⟩
 case round => (
 obtain ⟨k, rfl, hk, hrw⟩ := hrel
 have HR := hid hrw
 clear hrw HR2
 obtain ⟨c0, c1, c2, c3, c4, c5, c6, xl⟩ := HR.out.sCells
 rw [<- HZZ.out] at c3
 simp only at c2 c3 xl
 by_cases hkl : k < ll
 · (
 obtain ⟨t, ht⟩ : ∃ t, L[k]? = some t := ⟨_, List.getElem?_eq_getElem (by have := HLL.out; omega)⟩
 have htn := HL.out t (List.mem_of_getElem? ht)
 have hsl := HI.out wr (HR.out.sub ((List.sublist_append_right _ _).trans (List.sublist_append_right _ _)))
 have hpos : 0 < (L.map Int.ofNat).length := by rw [List.length_map]; have := HLL.out; omega
 have d0 := hsl.ci (i := k) (x := (t : Int)) (by rw [List.getElem?_map, ht]; rfl)
 have dl := hsl.lt hpos
 have d1 := HR.out.sHp htn
 have f1 := (HR.out.sFz t).2.1
 have l1 := HR.out.sLts.1
 have h2 := HR.out.sSetHp t hz
 rw [hpK_step ht] at h2
 have H2 := hid h2.drew
 obtain ⟨pv, hpv⟩ : ∃ pv, pv = hpK hp hz L k t := ⟨_, rfl⟩
 rw [<- hpv] at d1
 have hkI : (k : Int) < (ll : Int) := by omega
 have htI : (t : Int) < (n : Int) := by omega
 simp only at d1 f1 l1 H2
 clear ht hsl hpos h2 hpv HR c0 c1 c4 c5 c6
 go_wp2_with fail
 go_region
 go_wp2_with fail
 go_roundw
 case rel => exact ⟨k + 1, by go_num, by omega, H2.out⟩
 case measure => simp [intOf]; omega)
 · (
 obtain rfl : k = ll := by omega
 have e1 : hpK hp hz L k = fun p => if p ∈ L then hz else hp p := by unfold hpK; rw [HLL.out, List.take_length]
 rw [e1] at HR
 obtain ⟨hp', hhp'⟩ : ∃ hp', hp' = fun p => if p ∈ L then hz else hp p := ⟨_, rfl⟩
 rw [<- hhp'] at HR
 have HHP := hid hhp'
 have hown0 := (HR.out.alloc (.cells #[.int .i64 (k : Int)] 3)).get (i := 3) rfl
 dsimp only at hown0
 rw [<- HZZ.out] at hown0
 have HOWN := hid hown0
 have hlo := HR.out.bel.size
 have HG : Hid (∀ (w1 : World) (g c : Nat), w1.ownsRow w0.heap.size 3 1 (.slice (some ⟨g, 0, none⟩) (hz + 1) c) (hz + 1) (sz.flatMap encI ++ [.int .i64 (k : Int)]) ->
     (wr.alloc (.cells #[.int .i64 (k : Int)] 3)).grownBy w1 (Value.slice S.sa hz S.sc).ownBlock -> ((Value.slice S.sa hz S.sc).ownBlock = some g ∨ wr.heap.size <= g) ->
     w1.cell? ⟨S.xb, 3, none⟩ = some (.slice S.sa hz S.sc) /\ w1.frozen? ⟨S.xb, 3, none⟩ = false /\ S.xb < w1.heap.size /\
     Rws w0 (w1.setCell ⟨S.xb, 3, none⟩ (.slice (some ⟨g, 0, none⟩) (hz + 1) c)) (SR { S with ta := ta, tc := tc, sa := some ⟨g, 0, none⟩, sc := c } K.pb n hp' (fun p => if p ∈ L then ga p + 1 else ga p) (sz ++ [(k : Int)]) (tl ++ [.slice (some ⟨ib, io, none⟩) k ic]) ++ (PR K n el pl inn bl ++ rest))) :=
   hid (fun w1 g c h1 h2 h3 => by
     have hq := HZZ.out
     rw [hq] at h1 h2 h3 ⊢
     exact HR.out.sGrowZ ((Below.refl wr.heap.size wr).alloc (Nat.le_refl _) _) _ h1 h2 h3)
 clear e1 hhp' hown0 c0 c1 c2 c4 c5 c6
 go_upto_region 8 with (at_builtin; refine wpList_lie rfl _ _ _ rfl rowI (base := w0.heap.size) (by simp; omega) rfl HOWN.out ⟨wr.heap.size, 0, none⟩ 1 1 [.int .i64 (k : Int)] rfl rfl (cells1 (by simp [go_sem])) (by simp [Value.oneCell']) (by decide) (by omega) (by unfold maxLen; omega) wr.heap.size (by simp) ?_; intro g cap w7 hown7 hg7 hl7 hlt7; obtain ⟨q0, q1, q2, q3⟩ := HG.out w7 g cap hown7 hg7 hl7)
 have HQ := hid q3
 obtain ⟨Z, hZ⟩ : ∃ Z, Z = w7.setCell ⟨S.xb, 3, none⟩ (.slice (some ⟨g, 0, none⟩) (hz + 1) cap) := ⟨_, rfl⟩
 rw [<- hZ] at HQ ⊢
 obtain ⟨S2, hS2⟩ : ∃ S2 : SK, S2 = { S with ta := ta, tc := tc, sa := some ⟨g, 0, none⟩, sc := cap } := ⟨_, rfl⟩
 rw [<- hS2] at HQ
 have ex : S.xb = S2.xb := by rw [hS2]
 have eg : S.gb = S2.gb := by rw [hS2]
 have es : S2.sa = some ⟨g, 0, none⟩ := by rw [hS2]
 have ec : S2.sc = cap := by rw [hS2]
 have EX := hid ex; have EG := hid eg; have ES := hid es
 clear q0 q1 q2 q3 hZ hown7 hg7 hl7 hlt7 HOWN HG c3 xl HR hlo
 obtain ⟨c0, c1, c2, c3, c4, c5, c6, xl⟩ := HQ.out.sCells
 have hlen : (sz ++ [(k : Int)]).length = hz + 1 := by rw [List.length_append, <- HZZ.out]; rfl
 rw [es, ec, hlen] at c3
 have hsz : (sz ++ [(k : Int)])[hh]? = some sh := by rw [List.getElem?_append_left (by rw [<- HZZ.out]; exact hhl)]; exact HSH.out
 obtain ⟨g', hg', z0, z1, z2⟩ := HQ.out.sSz hsz
 rw [es] at hg'
 simp only [Option.some.injEq, Addr.mk.injEq, and_true] at hg'
 subst hg'
 have h5 := HQ.out.sSetSz es hh (sh - (k : Int))
 have H5 := hid h5
 have wS : IntKind.i64.wrap (sh - (k : Int)) = sh - (k : Int) := IntWalk.i64_in _ (by omega)
 have hhI : (hh : Int) < (hz : Int) + 1 := by omega
 rw [ex]
 clear hS2 ex eg es ec hlen hsz h5 c0 c1 c4 c5 c6 HQ
 go_upto_region 9 with fail
 obtain ⟨Y, hY⟩ : ∃ Y, Y = Z.setCell ⟨g, hh, none⟩ (.int .i64 (sh - (k : Int))) := ⟨_, rfl⟩
 rw [<- hY] at H5 ⊢
 clear hY c2 c3 xl z0 z1 z2 wS
 obtain ⟨sz', hsz'⟩ : ∃ sz', sz' = (sz ++ [(k : Int)]).set hh (sh - (k : Int)) := ⟨_, rfl⟩
 rw [<- hsz'] at H5
 have HSZ := hid hsz'
 clear hsz'
 obtain ⟨c0, c1, c2, c3, c4, c5, c6, xl⟩ := H5.out.sCells
 have H6 := hid (H5.out.swap.addNil 3 1)
 clear H5 c0 c1 c3 c4 c5 c6
 go_wp2_with fail
 clear c2
 go_loopw [7, 8, 9, 67] (fun v7 _ _ v67 wr => ∃ (j : Nat) (ra : Option Addr) (rc : Nat), v67 = .int .i64 j /\ v7 = .slice ra (memN j hp' hh).length rc /\ j <= n /\ Rws w0 wr (⟨3, 1, .slice ra (memN j hp' hh).length rc, (memN j hp' hh).length, ((memN j hp' hh).map Int.ofNat).flatMap encI⟩ :: (PR K n el pl inn bl ++ (SR S2 K.pb n hp' (fun p => if p ∈ L then ga p + 1 else ga p) sz' (tl ++ [.slice (some ⟨ib, io, none⟩) k ic]) ++ rest)))) (fun _ _ _ v67 _ => n - (intOf v67).toNat)
 case atStart => exact ⟨0, none, 0, rfl, rfl, Nat.zero_le _, H6.out⟩
 case round => (
 obtain ⟨j, ra, rc, rfl, rfl, hj, hrw⟩ := hrel
 have HR := hid hrw
 clear hrw H6
 have hml := memN_le (n := j) hp' hh
 obtain ⟨ml, hmle⟩ : ∃ ml, ml = (memN j hp' hh).length := ⟨_, rfl⟩
 rw [<- hmle] at HR hml ⊢
 have HML := hid hmle
 clear hmle
 by_cases hjn : j < n
 · (
 have hjI : (j : Int) < (n : Int) := by omega
 have hrun := HR.out.sub ((List.sublist_append_right _ _).trans (List.sublist_cons_self _ _))
 have d1 := hrun.sHp hjn
 have l1 := hrun.sLts.1
 have HSN := hid (memN_snoc hp' hh j)
 obtain ⟨hv, hhv⟩ : ∃ hv, hv = hp' j := ⟨_, rfl⟩
 rw [<- hhv] at d1
 have HV := hid hhv
 clear hrun hhv
 by_cases he : hv = hh
 · (
 have hb : ((hv : Int) == (hh : Int)) = true := by simp [he]
 have hms : memN (j + 1) hp' hh = memN j hp' hh ++ [j] := by rw [HSN.out, if_pos (by rw [<- HV.out]; exact he)]
 have HMS := hid hms
 have hown0 := (HR.out.alloc (.cells #[.int .i64 (j : Int)] 3)).get (i := 0) rfl
 dsimp only at hown0
 have HOWN := hid hown0
 have HB := hid ((Below.refl wr.heap.size wr).alloc (Nat.le_refl _) (.cells #[.int .i64 (j : Int)] 3))
 have hlo := HR.out.bel.size
 clear hown0 he hms
 go_wp2_with (at_builtin; refine wpList_lie rfl _ _ _ rfl rowI (base := w0.heap.size) (by simp; omega) rfl HOWN.out ⟨wr.heap.size, 0, none⟩ 1 1 [.int .i64 (j : Int)] rfl rfl (cells1 (by simp [go_sem])) (by simp [Value.oneCell']) (by decide) (by omega) (by unfold maxLen; omega) wr.heap.size (by simp) ?_; intro g cap w7 hown7 hg7 hl7 hlt7)
 have hz7 := HR.out.headGrow HB.out hown7 hg7 hl7
 have e7 : (memN j hp' hh).map Int.ofNat ++ [(j : Int)] = (memN (j + 1) hp' hh).map Int.ofNat := by rw [HMS.out, List.map_append]; rfl
 have e8 : (memN (j + 1) hp' hh).length = ml + 1 := by rw [HMS.out, List.length_append, <- HML.out]; rfl
 rw [e7] at hz7
 have HZ := hid hz7; have E8 := hid e8
 clear hz7 e7 e8 hown7 hg7 hl7 hlt7 hlo HOWN HB HR HSN HMS d1 l1
 go_roundw
 case rel => exact ⟨j + 1, _, _, by go_num, by rw [E8.out], by omega, by rw [E8.out]; exact HZ.out⟩
 case measure => simp [intOf]; omega)
 · (
 have hb : ((hv : Int) == (hh : Int)) = false := by simp; omega
 have hms : memN (j + 1) hp' hh = memN j hp' hh := by rw [HSN.out, if_neg (by rw [<- HV.out]; exact he), List.append_nil]
 have HMS := hid hms
 clear he hms HSN
 go_wp2_with fail
 go_roundw
 case rel => exact ⟨j + 1, ra, rc, by go_num, by rw [HMS.out, <- HML.out], by omega, by rw [HMS.out, <- HML.out]; exact HR.out⟩
 case measure => simp [intOf]; omega))
 · (
 obtain rfl : j = n := by omega
 have hsw : SW w0 wr s K S2 j el pl inn bl hp' (fun p => if p ∈ L then ga p + 1 else ga p) sz' (tl ++ [.slice (some ⟨ib, io, none⟩) k ic]) (⟨3, 1, .slice ra ml rc, ml, ((memN j hp' hh).map Int.ofNat).flatMap encI⟩ :: rest) :=
   ⟨⟨HR.out.dig, H.out.par.pi, hn1⟩, by rw [<- EG.out]; exact H.out.gr, H.out.st⟩
 have hS := strSplit_any hsw HUN.out HL.out (by rw [<- HLL.out]; exact hLl) (ia := some ⟨ib, io, none⟩) (ib := ib) (io := io) (ic := ic) (fun w' hw => HI.out w' (hw.sub (List.sublist_cons_self _ _)))
 rw [<- HLL.out] at hS
 have HS := hid hS
 clear hsw hS HR
 go_wp2_with fail
 refine HS.out.mono ?_
 unfold StrSplit
 rintro e w3 ⟨rfl, K1, el1, pl1, inn1, bl1, hsw1, hpb1, hu1, hsb1⟩
 have hS2 := strSplit_any hsw1 hu1 (L := memN j hp' hh) (fun t ht => (mem_memN.1 ht).1) (by rw [<- HML.out]; omega) (ia := ra) (ib := blkOf ra) (io := 0) (ic := rc) (fun w' hw => hw.slO (i := 0) rfl lenI (by rw [List.length_map]; exact HML.out))
 rw [<- HML.out] at hS2
 have HS2 := hid hS2; have HPB1 := hid hpb1; have HSB1 := hid hsb1
 clear hsw1 hpb1 hu1 hsb1 hS2 HS
 go_wp2_with fail
 refine HS2.out.mono ?_
 unfold StrSplit
 rintro e w4 ⟨rfl, K2, el2, pl2, inn2, bl2, hsw2, hpb2, hu2, hsb2⟩
 have HSW2 := hid hsw2; have HPB2 := hid hpb2; have HSB2 := hid hsb2; have HU2 := hid hu2
 clear hsw2 hpb2 hu2 hsb2 HS2
 go_wp2_with fail
 go_end0
 refine ⟨rfl, K2, S2, el2, pl2, inn1, inn2, bl2, sh, HSH.out, ⟨⟨?_, HSW2.out.par.pi, hn1⟩, HSW2.out.gr, HSW2.out.st⟩, HPB2.out.trans HPB1.out, EX.out.symm, HU2.out, HSB1.out, ?_⟩
 · have h9 := HSW2.out.par.rws.sub ((List.Sublist.refl _).append ((List.Sublist.refl _).append (List.sublist_cons_self _ _)))
   rw [HHP.out, HZZ.out, HSZ.out] at h9
   have hkl2 := HLL.out
   subst hkl2
   exact h9
 · have h9 := HSB2.out
   rw [HHP.out, HZZ.out] at h9
   exact h9))))
end
end Go.Proofs.YtgikimbafakmcaaGreatDoor
namespace Go.Proofs.YtgikimbafakmcaaGreatDoor
open Go.RowKit Pl
open Lib (hid)
theorem below_two {a b c : World} (h : Below a.heap.size a b) (k : Below b.heap.size b c) : Below a.heap.size a c := h.trans (k.mono h.size)
namespace Pl
def hbk (el hp : Nat -> Nat) (bl : List B3) (b : Nat) : Nat := hp (el (bl.getD b (0, 0, 0)).1)
def bksOf (el hp : Nat -> Nat) (bl : List B3) (k h : Nat) : List Nat := (List.range k).filter (fun b => decide (hbk el hp bl b = h))
theorem bks_step (el hp : Nat -> Nat) (bl : List B3) (k : Nat) : upd (fun h => (bksOf el hp bl k h).map Int.ofNat) (hbk el hp bl k) ((bksOf el hp bl k (hbk el hp bl k)).map Int.ofNat ++ [(k : Int)]) = fun h => (bksOf el hp bl (k + 1) h).map Int.ofNat := by
 funext h
 unfold upd bksOf
 rw [List.range_succ, List.filter_append]
 by_cases e : h = hbk el hp bl k
 · rw [if_pos e]; subst e; simp
 · rw [if_neg e]
   have : ¬ hbk el hp bl k = h := fun e2 => e e2.symm
   simp [this]
theorem bks_len (el hp : Nat -> Nat) (bl : List B3) (k h : Nat) : (bksOf el hp bl k h).length <= k := by
 unfold bksOf
 have := List.length_filter_le (fun b => decide (hbk el hp bl b = h)) (List.range k)
 simpa using this
theorem mem_bks {el hp : Nat -> Nat} {bl : List B3} {k h b : Nat} : b ∈ bksOf el hp bl k h ↔ b < k /\ hbk el hp bl b = h := by unfold bksOf; simp
theorem PI.hbk {n : Nat} {el pl inn hp : Nat -> Nat} {bl : List B3} (h : PI n el pl inn bl) {b : Nat} (hb : b < bl.length) : ∃ p, p < n /\ inn p = b /\ Pl.hbk el hp bl b = hp p := by
 have hx : bl[b]? = some bl[b] := List.getElem?_eq_getElem hb
 obtain ⟨h1, h2, h3⟩ := h.blk b _ hx
 refine ⟨el bl[b].1, (h.hel _ (by omega)).1, h.cov b _ _ hx (Nat.le_refl _) h1, ?_⟩
 unfold Pl.hbk
 rw [List.getD_eq_getElem?_getD, hx]; rfl
end Pl
section
variable {w0 w : World} {s : Lts} {K : PK} {S : SK} {n : Nat} {el pl inn : Nat -> Nat} {bl : List B3} {hp ga : Nat -> Nat} {sz : List Int} {tl : List Value} {rest : List Rw}
def BlocksPost (w0 : World) (K : PK) (S : SK) (n : Nat) (el pl inn : Nat -> Nat) (bl : List B3) (hp ga : Nat -> Nat) (sz : List Int) (tl : List Value) (rest : List Rw) (w : World) (e : Ending) (w' : World) : Prop :=
  ∃ (ob : Nat) (vs : Nat -> Value), e = .returned (.slice (some ⟨ob, 0, none⟩) sz.length sz.length) /\
    Rws w0 w' (FR ob sz.length vs (fun h => (bksOf el hp bl bl.length h).map Int.ofNat) ++ (PR K n el pl inn bl ++ (SR S K.pb n hp ga sz tl ++ rest))) /\ w0.heap.size <= w.heap.size
theorem blocks_any (h : SW w0 w s K S n el pl inn bl hp ga sz tl rest) (hz : sz.length <= 1000) (hz0 : 0 < sz.length) (hh : ∀ p, p < n -> hp p < sz.length) :
    Calls Tryz.prog 127 #[.pointer (some ⟨S.xb, 0, none⟩)] w (BlocksPost w0 K S n el pl inn bl hp ga sz tl rest w) := by
 have H := hid h; have HH := hid hh
 have hn1 := h.par.n1
 have hfew := h.par.pi.few
 have hlo0 := h.par.rws.bel.size
 obtain ⟨c0, c1, c2, c3, c4, c5, c6, xl⟩ := h.run.sCells
 obtain ⟨m, hm⟩ : ∃ m, m = sz.length := ⟨_, rfl⟩
 obtain ⟨bm, hbm⟩ : ∃ bm, bm = bl.length := ⟨_, rfl⟩
 rw [<- hm] at hz hz0 c3
 rw [<- hbm] at hfew
 have hmk := run_make_row' (P := Tryz.prog) 32 58 (.slice none 0 0) 24 Tryz.underlying32 (by kernel_rfl) rfl .i64 .i64 m (by omega) (by omega)
 have h1 := h.par.rws.frMade (m := m) (by unfold maxLen; omega)
 have H1 := hid h1
 have hpb := parBlocks_any (H1.out.sub (List.sublist_append_right _ _))
 rw [<- hbm] at hpb
 have HPB := hid hpb
 obtain ⟨ob, hob⟩ : ∃ ob, ob = w.heap.size := ⟨_, rfl⟩
 rw [<- hob] at H1
 have HM := hid hm; have HBM := hid hbm
 clear h hh h1 hpb hm hbm c0 c2 c4 c5 c6
 go_enter Tryz.func127, Tryz.ntmps127
 go_wp2_with fail
 refine HPB.out.mono ?_
 rintro e w1 ⟨rfl, rfl⟩
 rw [<- hob]
 obtain ⟨V, hV⟩ : ∃ V, V = w.alloc (.cells (madeCells #[.slice none 0 0] m) 58) := ⟨_, rfl⟩
 rw [<- hV] at H1 ⊢
 clear hV hob hmk c1 c3 xl HPB
 go_wp2_with fail
 go_loopw [4, 5, 17] (fun _ _ v17 wr => ∃ (k : Nat) (vs : Nat -> Value), v17 = .int .i64 k /\ k <= bm /\ Rws w0 wr (FR ob m vs (fun h => (bksOf el hp bl k h).map Int.ofNat) ++ (PR K n el pl inn bl ++ (SR S K.pb n hp ga sz tl ++ rest)))) (fun _ _ v17 _ => bm - (intOf v17).toNat)
 case atStart => exact ⟨0, _, rfl, Nat.zero_le _, H1.out⟩
 case round => (
 obtain ⟨k, vs, rfl, hk, hrw⟩ := hrel
 have HR := hid hrw
 clear hrw H1
 by_cases hkb : k < bm
 · (
 have hx : bl[k]? = some (bl.getD k (0, 0, 0)) := by rw [List.getD_eq_getElem?_getD, List.getElem?_eq_getElem (by have := HBM.out; omega)]; rfl
 obtain ⟨x, hxx⟩ : ∃ x, x = bl.getD k (0, 0, 0) := ⟨_, rfl⟩
 rw [<- hxx] at hx
 obtain ⟨b1, b2, b3⟩ := H.out.par.pi.blk k x hx
 have hel := (H.out.par.pi.hel x.1 (by omega)).1
 have hhb : hbk el hp bl k = hp (el x.1) := by unfold hbk; rw [<- hxx]
 have hhm := HH.out _ hel
 rw [<- HM.out] at hhm
 have KEEP : Hid (∀ W, Below wr.heap.size wr W -> W.cell? ⟨S.xb, 1, none⟩ = some (.pointer (some ⟨K.pb, 0, none⟩)) /\ W.cell? ⟨S.xb, 2, none⟩ = some (.slice (some ⟨S.hb, 0, none⟩) n n) /\ W.cell? ⟨S.hb, el x.1, none⟩ = some (.int .i64 (hp (el x.1) : Int)) /\ Below wr.heap.size wr W) := hid (fun W hW => by (
 have h1 := (HR.out.call hW).sub ((List.sublist_append_right _ _).trans (List.sublist_append_right _ _))
 have h2 := h1.sCells
 exact ⟨h2.2.1, h2.2.2.1, h1.sHp hel, hW⟩))
 have CF : Hid (∀ W, Below wr.heap.size wr W -> Calls Tryz.prog 161 #[.pointer (some ⟨K.pb, 0, none⟩), .int .i64 k] W fun e w' => e = .returned (.int .i64 (el x.1 : Int)) /\ Below W.heap.size W w') := hid (fun W hW =>
   parFirst_any (rest := SR S K.pb n hp ga sz tl ++ rest) ⟨(HR.out.call hW).sub (List.sublist_append_right _ _), H.out.par.pi, hn1⟩ hx)
 have xl := (HR.out.sub ((List.sublist_append_right _ _).trans (List.sublist_append_right _ _))).sCells.2.2.2.2.2.2.2
 have HHB := hid hhb
 obtain ⟨ev, hev⟩ : ∃ ev, ev = el x.1 := ⟨_, rfl⟩
 rw [<- hev] at KEEP CF hel hhm HHB
 obtain ⟨hv, hhv⟩ : ∃ hv, hv = hp ev := ⟨_, rfl⟩
 rw [<- hhv] at KEEP hhm HHB
 have hkI : (k : Int) < (bm : Int) := by omega
 have heI : (ev : Int) < (n : Int) := by omega
 have hhI : (hv : Int) < (m : Int) := by omega
 have B0 := hid (Below.refl wr.heap.size wr).drew
 clear hx hxx b1 b2 b3 hhb hev hhv
 go_wp2_with fail
 go_region_held3 (fun W => W.cell? ⟨S.xb, 1, none⟩ = some (.pointer (some ⟨K.pb, 0, none⟩)) /\ W.cell? ⟨S.xb, 2, none⟩ = some (.slice (some ⟨S.hb, 0, none⟩) n n) /\ W.cell? ⟨S.hb, ev, none⟩ = some (.int .i64 (hv : Int)) /\ Below wr.heap.size wr W)
   (first | (exact KEEP.out _ B0.out) | (go_split_ands; exact KEEP.out _ (below_two (by assumption) (by assumption))))
   ((go_at_call 161; go_split_ands; refine (CF.out _ (by assumption)).mono ?_; rintro e w1 ⟨rfl, hB⟩))
 have HB1 : Hid (Below wr.heap.size wr w1) := hid (by go_split_ands; assumption)
 go_split_ands
 have HR1 := hid (HR.out.call HB1.out)
 have hown0 := (HR1.out.alloc (.cells #[.int .i64 (k : Int)] 3)).frOwn (l := hv) hhm
 have HOWN := hid hown0
 have HG : Hid (∀ (w8 : World) (g cap : Nat), w8.ownsRow w0.heap.size 3 1 (.slice (some ⟨g, 0, none⟩) (((bksOf el hp bl k hv).map Int.ofNat).length + 1) cap) (((bksOf el hp bl k hv).map Int.ofNat).length + 1) (((bksOf el hp bl k hv).map Int.ofNat).flatMap encI ++ [.int .i64 (k : Int)]) ->
     (w1.alloc (.cells #[.int .i64 (k : Int)] 3)).grownBy w8 (vs hv).ownBlock -> ((vs hv).ownBlock = some g ∨ w1.heap.size <= g) ->
     w8.cell? ⟨ob, hv, none⟩ = some (vs hv) /\ w8.frozen? ⟨ob, hv, none⟩ = false /\ ob < w8.heap.size /\ Rws w0 (w8.setCell ⟨ob, hv, none⟩ (.slice (some ⟨g, 0, none⟩) (((bksOf el hp bl k hv).map Int.ofNat).length + 1) cap)) (FR ob m (upd vs hv (.slice (some ⟨g, 0, none⟩) (((bksOf el hp bl k hv).map Int.ofNat).length + 1) cap)) (fun h => (bksOf el hp bl (k + 1) h).map Int.ofNat) ++ (PR K n el pl inn bl ++ (SR S K.pb n hp ga sz tl ++ rest)))) := hid (fun w8 g cap ho hg hl => by
   have h2 := HR1.out.frGrow ((Below.refl w1.heap.size w1).alloc (Nat.le_refl _) _) hhm (v' := .slice (some ⟨g, 0, none⟩) (((bksOf el hp bl k hv).map Int.ofNat).length + 1) cap) (ys := (bksOf el hp bl k hv).map Int.ofNat ++ [(k : Int)]) (by rw [List.length_append, List.flatMap_append]; exact ho) hg (fun g' hg' => by simp only [Value.ownBlock, Option.some.injEq] at hg'; subst hg'; exact hl)
   have e := bks_step el hp bl k
   rw [HHB.out] at e
   rw [e] at h2
   exact h2)
 obtain ⟨q0, q1, q2, q3⟩ := HR1.out.frCell (l := hv) hhm
 have hbl := bks_len el hp bl k hv
 have hlo := HR1.out.bel.size
 have hlm : ((bksOf el hp bl k hv).map Int.ofNat).length = (bksOf el hp bl k hv).length := List.length_map ..
 rw [hlm] at HG HOWN
 obtain ⟨wl, hwl⟩ : ∃ wl, wl = (bksOf el hp bl k hv).length := ⟨_, rfl⟩
 rw [<- hwl] at HG HOWN hbl
 obtain ⟨v, hvv⟩ : ∃ v, v = vs hv := ⟨_, rfl⟩
 rw [<- hvv] at q0 HG HOWN
 rename_i x1 x2 x3
 clear x1 x2 x3 KEEP CF B0 hown0 hlm hwl hvv xl hel HR HB1
 go_wp2_with (at_builtin; refine wpList_lie rfl _ _ _ rfl rowI (base := w0.heap.size) (by simp; omega) rfl HOWN.out ⟨w1.heap.size, 0, none⟩ 1 1 [.int .i64 (k : Int)] rfl rfl (cells1 (by simp [go_sem])) (by simp [Value.oneCell']) (by decide) (by omega) (by unfold maxLen; omega) w1.heap.size (by simp) ?_; intro g cap w7 hown7 hg7 hl7 hlt7; obtain ⟨p0, p1, p2, p3⟩ := HG.out w7 g cap hown7 hg7 hl7)
 have HZ := hid p3
 clear p0 p1 p2 p3 hown7 hg7 hl7 hlt7 hlo HOWN HG q0 q1 q2 q3 HR1
 go_roundw
 case rel => exact ⟨k + 1, _, by go_num, by omega, HZ.out⟩
 case measure => simp [intOf]; omega)
 · (
 obtain rfl : k = bm := by omega
 have hr := HR.out
 rw [HBM.out] at hr
 have HR2 := hid hr
 clear hr HR
 go_wp2_with fail
 go_ret
 unfold BlocksPost
 rw [<- HM.out]
 exact ⟨ob, vs, rfl, HR2.out, hlo0⟩))
end
end Go.Proofs.YtgikimbafakmcaaGreatDoor

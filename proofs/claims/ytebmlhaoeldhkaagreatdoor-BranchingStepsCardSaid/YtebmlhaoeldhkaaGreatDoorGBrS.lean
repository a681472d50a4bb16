/-
 Lemmas.
-/
import Derived.Test.YtebmlhaoeldhkaaGreatDoorShelf
import Derived.Test.YtebmlhaoeldhkaaGreatDoorGBrQ
import Derived.Test.YtebmlhaoeldhkaaGreatDoorGOrder
import Derived.Test.YtebmlhaoeldhkaaGreatDoorGGraphC
import Derived.Test.YtebmlhaoeldhkaaGreatDoorGTauJ
import Derived.Deep.QuietTactic
import Derived.BigQuiet
set_option maxRecDepth 100000
namespace Go.Proofs.YtebmlhaoeldhkaaGreatDoor
open Go.RowKit Pl Go.Sort Go.Shelf Go.Lib
open Lib (hid)
def cmpS (a b : S) : Int := orL [cmpI a.1 b.1, cmpI a.2 b.2]
theorem ltOf_cmpS (x y : S) : ltOf cmpS x y = ltS x y := by
 rw [Bool.eq_iff_iff, ltS_iff]
 unfold ltOf cmpS orL orL orL cmpI
 simp only [decide_eq_true_eq]
 repeat' split
 all_goals omega
theorem swoS : SWO (ltOf cmpS) where
 irrefl x := by rw [ltOf_cmpS]; exact stoS.irrefl x
 trans x y z := by rw [ltOf_cmpS, ltOf_cmpS, ltOf_cmpS]; exact stoS.trans x y z
 ntrans x y z := by
   rw [ltOf_cmpS, ltOf_cmpS, ltOf_cmpS]
   simp only [Bool.eq_false_iff, ne_eq, ltS_iff]
   omega
theorem sortFuncS (cf : S -> S -> Int) (hO : SWO (ltOf cf)) (f : Nat) (eg : ∀ args w, (callFunc f args).run Tryz.prog w = .ok (.enter f args) w)
   (hcmp : ∀ (x y : S) (W : World), Calls Tryz.prog f #[.agg #[.int .i64 x.1, .int .i64 x.2], .agg #[.int .i64 y.1, .int .i64 y.2]] W fun e w' => e = .returned (.int .i64 (cf x y)) /\ ∃ q os', w' = Go.Sort.grow (W.drewN q) os')
   {base g n cap : Nat} {xs : List S} {w : World} (h : w.ownsRow base 117 2 (.slice (some ⟨g, 0, none⟩) n cap) xs.length (xs.flatMap encS)) (hn : n = xs.length) (hl : xs.length <= 1000000) :
   Calls Tryz.prog 180 #[.slice (some ⟨g, 0, none⟩) n cap, .func (.func f) #[] #[]] w fun e w' => e = .returned (.tuple #[]) /\
     ∃ ys : List S, ys.Perm xs /\ ys.Pairwise (fun a b => ltOf cf b a = false) /\ w'.ownsRow base 117 2 (.slice (some ⟨g, 0, none⟩) n cap) n (ys.flatMap encS) /\ (∀ {w0 : World}, Below base w0 w -> Below base w0 w') := by
 subst hn
 have hlt := h.lt g rfl
 have hcon := AnyQ.slices_SortFunc Tryz.sortS 2 Tryz.isAgg117 Tryz.sizeOf117 encS lenS (fun x v hv => by simp [encS] at hv; rcases hv with rfl | rfl <;> rfl) cf hO f #[] g 0 cap xs.toArray w eg
   (fun m os dk _ x y => hcmp x y _) (holdsK_own lenS (by decide) h) hlt.2 (by simpa using by omega)
 change Calls Tryz.prog 180 _ _ _ at hcon
 refine hcon.mono ?_
 rintro e w' ⟨rfl, d', m, os, hp, hs, rfl⟩
 have hsz : d'.size = xs.length := by simpa using hp.1
 refine ⟨rfl, d'.toList, ?_, ?_, ?_, fun hB => below_sortK hB hlt.1 hlt.2⟩
 · have := hp.2.2
   simp only [Array.toList_extract, List.size_toArray, List.extract_eq_take_drop, Nat.sub_zero, List.drop_zero] at this
   rw [List.take_of_length_le (by simp [hsz]), List.take_of_length_le (Nat.le_refl _)] at this
   exact this
 · rw [List.pairwise_iff_getElem]
   intro i j hi hj hij
   have := hs i j (Nat.zero_le _) hij (by simpa [<- hsz] using hj)
   rw [getElem!_pos _ _ (by simpa using hj), getElem!_pos _ _ (by simpa using hi)] at this
   simpa using this
 · have := ownsRow_sortedK (m := m) (os := os) (d := d') lenS (by decide) h hsz
   simpa using this
theorem sortFuncS_v (cf : S -> S -> Int) (hO : SWO (ltOf cf)) (f : Nat) (eg : ∀ args w, (callFunc f args).run Tryz.prog w = .ok (.enter f args) w)
   (hcmp : ∀ (x y : S) (W : World), Calls Tryz.prog f #[.agg #[.int .i64 x.1, .int .i64 x.2], .agg #[.int .i64 y.1, .int .i64 y.2]] W fun e w' => e = .returned (.int .i64 (cf x y)) /\ ∃ q os', w' = Go.Sort.grow (W.drewN q) os')
   {base : Nat} {v : Value} {xs : List S} {w : World} (h : w.ownsRow base 117 2 v xs.length (xs.flatMap encS)) (hl : xs.length <= 1000000) :
   Calls Tryz.prog 180 #[v, .func (.func f) #[] #[]] w fun e w' => e = .returned (.tuple #[]) /\
     ∃ ys : List S, ys.Perm xs /\ ys.Pairwise (fun a b => ltOf cf b a = false) /\ w'.ownsRow base 117 2 v ys.length (ys.flatMap encS) /\ (∀ {w0 : World}, Below base w0 w -> Below base w0 w') := by
 rcases h.2 with ⟨rfl, hn⟩ | ⟨g, cap, cur, rfl, r⟩
 · have hx : xs = [] := List.eq_nil_of_length_eq_zero hn
   subst hx
   have hcon := AnyF.slices_SortFunc_none Tryz.sortS none 0 (.func (.func f) #[] #[]) w
   change Calls Tryz.prog 180 _ _ _ at hcon
   refine hcon.mono ?_
   rintro e w' ⟨rfl, rfl⟩
   exact ⟨rfl, [], List.Perm.refl _, List.Pairwise.nil, h, fun hB => hB⟩
 · refine (sortFuncS cf hO f eg hcmp h rfl hl).mono ?_
   rintro e w' ⟨rfl, ys, hp, hs, ho, hB⟩
   exact ⟨rfl, ys, hp, hs, by rw [hp.length_eq]; exact ho, hB⟩
theorem compactS_nil (w : World) : Calls Tryz.prog 183 #[.slice none 0 0] w fun e w' => e = .returned (.slice none 0 0) /\ w = w' := by
 go_enter Tryz.func183, Tryz.ntmps183
 go_wp2
 go_ret
 exact ⟨rfl, rfl⟩
theorem compactS_v {base : Nat} {v : Value} {xs : List S} {w : World} (h : w.ownsRow base 117 2 v xs.length (xs.flatMap encS)) (hl : xs.length <= 1000000) :
   Calls Tryz.prog 183 #[v] w fun e w' => ∃ v', e = .returned v' /\ w'.ownsRow base 117 2 v' (cmpt xs).length ((cmpt xs).flatMap encS) /\ (∀ {w0 : World}, Below base w0 w -> Below base w0 w') := by
 rcases h.2 with ⟨rfl, hn⟩ | ⟨g, cap, cur, rfl, hbg, hg, hnc, r⟩
 · have hx : xs = [] := List.eq_nil_of_length_eq_zero hn
   subst hx
   refine (compactS_nil w).mono ?_
   rintro e w' ⟨rfl, rfl⟩
   exact ⟨_, rfl, h, fun hB => hB⟩
 · refine (compactS_any h rfl hl hbg hnc).mono ?_
   rintro e w' ⟨m, rfl, ho, rfl, hB⟩
   exact ⟨_, rfl, ho, fun hB0 => hB0.trans hB⟩
def cmpL (xs ys : List Int) : Int := orL (List.zipWith cmpI xs ys)
theorem compareL_any {a a2 : Option Addr} {b off c b2 off2 c2 n : Nat} {xs ys : List Int} {w : World} (h : SlAt encI 1 w a b off xs) (h2 : SlAt encI 1 w a2 b2 off2 ys) (hx : xs.length = n) (hy : ys.length = n) (hl : n <= 1000000) :
   Calls Tryz.prog 182 #[.slice a n c, .slice a2 n c2] w fun e w' => e = .returned (.int .i64 (cmpL xs ys)) /\ w = w' := by
 have HX := hid hx; have HY := hid hy
 have HZL : Hid ((List.zipWith cmpI xs ys).length = n) := hid (by simp [hx, hy])
 go_enter Tryz.func182, Tryz.ntmps182
 clear hx hy
 go_wp2
 go_loop [5, 6, 7, 8, 11] (fun _ _ _ _ i => ∃ k : Nat, k <= n /\ i = .int .i64 k /\ (∀ j, j < k -> (List.zipWith cmpI xs ys)[j]? = some 0)) (fun _ _ _ _ i => n - (intOf i).toNat)
 case atStart => exact ⟨0, Nat.zero_le _, rfl, by intro j hj; omega⟩
 case round =>
   obtain ⟨k, hk, rfl, hz⟩ := hrel
   have HZ := hid hz; clear hz
   by_cases hlt : k < n
   · obtain ⟨x, hxk⟩ := getElem?_of_lt (xs := xs) (i := k) (by have := HX.out; omega)
     obtain ⟨y, hyk⟩ := getElem?_of_lt (xs := ys) (i := k) (by have := HY.out; omega)
     obtain rfl := h.ad (by have := HX.out; omega)
     obtain rfl := h2.ad (by have := HY.out; omega)
     have hc := h.ci hxk
     have hc2 := h2.ci hyk
     have HXK : Hid ((List.zipWith cmpI xs ys)[k]? = some (cmpI x y)) := hid (by rw [List.getElem?_zipWith, hxk, hyk])
     have hkI : (k : Int) < (n : Int) := by omega
     have hkI2 : ¬ (n : Int) <= (k : Int) := by omega
     have hkd : decide ((n : Int) <= (k : Int)) = false := by simp; omega
     clear h h2 hxk hyk
     obtain ⟨z, hz⟩ : ∃ z, z = cmpI x y := ⟨_, rfl⟩
     have HC := hid (compare_any x y w)
     rw [<- hz] at HC HXK
     clear hz
     by_cases h0 : z = 0
     · subst h0
       go_wp2_with (go_at_call 128; refine HC.out.mono ?_; rintro e w' ⟨rfl, rfl⟩)
       go_round
       case rel => exact ⟨k + 1, by omega, by go_num, by
           intro j hj
           by_cases hjk : j = k
           · subst hjk; exact HXK.out
           · exact HZ.out j (by omega)⟩
       case measure => simp [intOf]; omega
     · have hb : (z != 0) = true := by simp [h0]
       have H0 := hid h0; clear h0
       go_wp2_with (go_at_call 128; refine HC.out.mono ?_; rintro e w' ⟨rfl, rfl⟩)
       go_ret
       exact ⟨ret_i (orL_at HZ.out HXK.out H0.out).symm, rfl⟩
   · clear h h2
     obtain rfl : k = n := by omega
     go_wp2
     go_ret
     exact ⟨ret_i (orL_none (fun j hj => HZ.out j (by rw [<- HZL.out]; exact hj))).symm, rfl⟩
theorem slAt_lit2 {w : World} {n : Nat} {x y : Int} (h0 : w.cell? ⟨n, 0, none⟩ = some (.int .i64 x)) (h1 : w.cell? ⟨n, 1, none⟩ = some (.int .i64 y)) :
   SlAt encI 1 w (some ⟨n, 0, none⟩) n 0 [x, y] where
 ad _ := rfl
 lt _ := World.block_lt_of_cell? _ _ h0
 cell := by
   intro i v hv j u hu
   match j, hu with
   | 0, hu =>
     simp [encI] at hu; subst hu
     match i, hv with
     | 0, hv => simp at hv; subst hv; exact h0
     | 1, hv => simp at hv; subst hv; exact h1
theorem sortedFn_any (x y : S) (w : World) : Calls Tryz.prog 181 #[.agg #[.int .i64 x.1, .int .i64 x.2], .agg #[.int .i64 y.1, .int .i64 y.2]] w fun e w' => e = .returned (.int .i64 (cmpS x y)) /\ ∃ q os', w' = Go.Sort.grow (w.drewN q) os' := by
 have hcm : cmpS x y = cmpL [x.1, x.2] [y.1, y.2] := rfl
 rw [hcm]
 obtain ⟨x1, x2⟩ := x; obtain ⟨y1, y2⟩ := y
 simp only
 go_enter Tryz.func181, Tryz.ntmps181
 go_wp2_with fail
 refine (compareL_any (n := 2) (slAt_lit2 (x := x1) (y := x2) (by simp [go_sem]) (by simp [go_sem])) (slAt_lit2 (x := y1) (y := y2) (by simp [go_sem]) (by simp [go_sem])) rfl rfl (by omega)).mono ?_
 rintro e w' ⟨rfl, rfl⟩
 go_wp2
 go_ret
 exact ⟨rfl, 0, _, by rw [Go.Sort.alloc_eq_grow, Go.Sort.alloc_eq_grow, Go.Sort.alloc_eq_grow, Go.Sort.alloc_eq_grow, Go.Sort.grow_grow, Go.Sort.grow_grow, Go.Sort.grow_grow]; rfl⟩
theorem sortedS_any {base : Nat} {v : Value} {xs : List S} {w : World} (h : w.ownsRow base 117 2 v xs.length (xs.flatMap encS)) (hl : xs.length <= 1000000) :
   Calls Tryz.prog 158 #[v] w fun e w' => ∃ v', e = .returned v' /\ w'.ownsRow base 117 2 v' (nf ltS xs).length ((nf ltS xs).flatMap encS) /\ (∀ {w0 : World}, Below base w0 w -> Below base w0 w') := by
 have eg : ∀ args w, (callFunc 181 args).run Tryz.prog w = .ok (.enter 181 args) w := enters_of Tryz.func181 (by kernel_rfl) rfl
 have HE := hid eg; clear eg
 have HO := hid h
 clear h
 go_enter Tryz.func158, Tryz.ntmps158
 go_wp2_with fail
 refine (sortFuncS_v cmpS swoS 181 HE.out (fun x y W => sortedFn_any x y W) HO.out hl).mono ?_
 rintro e w2 ⟨rfl, ys, hp, hs, hown, hB2⟩
 have hl2 : ys.length <= 1000000 := by rw [hp.length_eq]; exact hl
 have hfin : cmpt ys = nf ltS xs := by
   refine cmpt_eq_nf stoS ?_ (fun x => hp.mem_iff)
   exact hs.imp (fun {a b} h => by rw [ltOf_cmpS] at h; exact h)
 have HF := hid hfin
 have HO2 := hid hown
 have HB2 : Hid (∀ {w0 : World}, Below base w0 w -> Below base w0 w2) := hid hB2
 clear hp hs hfin hown hB2
 go_wp2_with (go_at_call 183; refine (compactS_v HO2.out hl2).mono ?_; rintro e w3 ⟨v3, rfl, hown3, hB4⟩)
 go_ret
 exact ⟨_, rfl, by rw [<- HF.out]; exact hown3, fun hB => hB4 (HB2.out hB)⟩
end Go.Proofs.YtebmlhaoeldhkaaGreatDoor
namespace Go.Proofs.YtebmlhaoeldhkaaGreatDoor
open Go.RowKit Pl
open Lib (hid)
theorem inert_any {w : World} {a : Option Addr} {b off c n : Nat} {C : Nat -> Int} (hC : SlAt encI 1 w a b off (fl n C)) {p t : Nat} (hp : p < n) (ht : t < n) (l : Int) :
   Calls Tryz.prog 98 #[.int .i64 (p : Int), .agg #[.int .i64 l, .int .i64 (t : Int)], .slice a n c] w fun e w' => e = .returned (.bool (decide (l = 0) && decide (C t = C p))) /\ Below w.heap.size w w' := by
 obtain rfl := hC.ad (by rw [fl_len]; omega)
 have hcp := hC.ci (fl_get C hp)
 have hct := hC.ci (fl_get C ht)
 have hb := hC.lt (by rw [fl_len]; omega)
 have hpI : (p : Int) < (n : Int) := by omega
 have htI : (t : Int) < (n : Int) := by omega
 obtain ⟨x, hx⟩ : ∃ x, x = C p := ⟨_, rfl⟩
 obtain ⟨y, hy⟩ : ∃ y, y = C t := ⟨_, rfl⟩
 rw [<- hx] at hcp ⊢; rw [<- hy] at hct ⊢
 clear hC hx hy
 have hB := (Below.refl w.heap.size w).alloc (Nat.le_refl _) (.cells #[.int .i64 l, .int .i64 (t : Int)] 117)
 have HB := hid hB; clear hB
 by_cases hl : l = 0
 · subst hl
   go_enter Tryz.func98, Tryz.ntmps98
   go_wp2_with fail
   go_region
   all_goals
     go_wp2_with fail
     go_ret
     exact ⟨by congr 1; simp [eq_comm, Bool.beq_eq_decide_eq], bdrew HB.out⟩
 · have hd : (l == 0) = false := by simp [hl]
   go_enter Tryz.func98, Tryz.ntmps98
   go_wp2_with fail
   go_region
   all_goals
     go_wp2_with fail
     go_ret
     exact ⟨by simp [hl], bdrew HB.out⟩
theorem oneES' (x : S) : ∀ u ∈ encS x, u.oneCell' = true := by
 intro u hu
 simp [encS] at hu
 rcases hu with rfl | rfl <;> rfl
set_option maxHeartbeats 8000000 in
theorem sig_any {w : World} {gb : Nat} {t : Lts} {m : Nat} (hg : GraphAt w gb t) (hr : t.Right) (hn : t.st = (m : Int)) (hs : Srt ltE t.es) {C : Nat -> Int} {D : List Nat} (hD : OrdL t m D) (hDl : D.length = m) (hall : ∀ k, k < m -> k ∈ D) (he : t.es.length <= 900)
   {ca oa : Option Addr} {cb co cc ob oo oc : Nat} (hC : SlAt encI 1 w ca cb co (fl m C)) (hO : SlAt encI 1 w oa ob oo (D.map Int.ofNat)) :
   Calls Tryz.prog 132 #[.pointer (some ⟨gb, 0, none⟩), .slice ca m cc, .slice oa m oc] w fun e w' => ∃ (tb base : Nat) (F : Nat -> List S), e = .returned (.slice (some ⟨tb, 0, none⟩) m m) /\ OwnRows encS 2 117 78 w' base tb m F /\ w.heap.size <= tb /\ base <= w'.heap.size /\ Below w.heap.size w w' /\ ∀ p, p < m -> SigOk t C p (F p) := by
 have hm1 : m <= 1000 := by have := hr.st0; omega
 have hmk := run_make_row' (P := Tryz.prog) 38 78 (.slice none 0 0) 24 Tryz.underlying38 (by kernel_rfl) rfl .i64 .i64 m (by omega) (by omega)
 have hgs := getStates_any hg
 rw [hn] at hgs
 have HG := hid hg; have HR := hid hr; have HN := hid hn; have HSR := hid hs; have HD := hid hD; have HDL := hid hDl; have HALL := hid hall; have HE := hid he; have HC := hid hC; have HO := hid hO; have HGS := hid hgs
 clear hg hr hn hs hD hDl hall he hC hO hgs
 go_enter Tryz.func132, Tryz.ntmps132
 go_wp2_with fail
 refine HGS.out.mono ?_
 rintro e w1 ⟨rfl, hB1⟩
 have hrw := OwnRows.made (enc := encS) (k := 2) (e := 117) (T := 78) (w := w1) (n := m)
 have hb1 := (hB1.alloc hB1.size (.cells (madeCells #[.slice none 0 0] m) 78))
 have HRW := hid hrw; have HB1 := hid hb1
 have hTB : w.heap.size <= w1.heap.size := hB1.size
 clear hrw hb1 hB1 HGS
 go_wp2_with fail
 obtain ⟨tb, htb⟩ : ∃ tb, tb = w1.heap.size := ⟨_, rfl⟩
 obtain ⟨base, hbase⟩ : ∃ base, base = w1.heap.size + 1 := ⟨_, rfl⟩
 have hbs0 : (w1.alloc (.cells (madeCells #[.slice none 0 0] m) 78)).heap.size = base := by rw [hbase]; simp
 rw [<- hbase] at HRW
 rw [<- htb] at HRW hTB ⊢
 have hbt : tb < base := by omega
 have hbsz : base <= (w1.alloc (.cells (madeCells #[.slice none 0 0] m) 78)).heap.size := by omega
 have HBSZ := hid hbsz
 clear htb hbase hbs0 hbsz
 go_loopw [9, 10, 12, 18] (fun _ _ _ v18 wr => ∃ (i : Nat) (F : Nat -> List S), v18 = .int .i64 i /\ i <= m /\ OwnRows encS 2 117 78 wr base tb m F /\ base <= wr.heap.size /\ Below w.heap.size w wr /\ (∀ p, p ∈ D.take i -> SigOk t C p (F p)) /\ (∀ p, p ∉ D.take i -> F p = [])) (fun _ _ _ v18 _ => m - (intOf v18).toNat)
 case atStart => exact ⟨0, fun _ => [], rfl, Nat.zero_le _, HRW.out, HBSZ.out, HB1.out, by simp, fun _ _ => rfl⟩
 case round =>
   obtain ⟨i, F, rfl, hi, hrw, hbs, hB, hF, hF0⟩ := hrel
   have HRX := hid hrw; have HB := hid hB; have HF := hid hF; have HF0 := hid hF0
   have hws := hB.size
   clear hrw hB hF hF0 HRW HB1 HBSZ
   by_cases him : i < m
   · obtain ⟨p, hp⟩ := getElem?_of_lt (xs := D) (i := i) (by have := HDL.out; omega)
     have hpm := HD.out.rng p (List.mem_of_getElem? hp)
     have hos := HO.out.below HB.out (Nat.le_refl _)
     have hpI : (D.map Int.ofNat)[i]? = some (p : Int) := by rw [List.getElem?_map, hp]; rfl
     obtain rfl := hos.ad (by rw [List.length_map]; have := HDL.out; omega)
     have d0 := hos.ci hpI
     have dl := hos.lt (by rw [List.length_map]; have := HDL.out; omega)
     have hiI : (i : Int) < (m : Int) := by omega
     have HEA := hid (each_any HG.out HB.out (p : Int))
     have HAH : Hid (∀ x, tau t p x -> SigOk t C x (F x)) := hid (fun x hx => HF.out x (HD.out.ahead HR.out HSR.out _ _ _ hp hx))
     have HP := hid hp
     clear hos hpI hp
     go_wp2_with fail
     refine HEA.out.mono ?_
     rintro e wb ⟨⟨a2, c2, b2, off2, rfl, hc2, hm2, hss⟩, hBb⟩
     have HSS := hid hss
     have HRB := hid (HRX.out.call hBb)
     have hBB : Below w.heap.size w wb := HB.out.trans (hBb.mono hws)
     have HBB := hid hBB
     have hbs2 : base <= wb.heap.size := by have := hBb.size; omega
     have hws2 := hBB.size
     obtain ⟨ol, hole⟩ : ∃ ol, ol = (t.outs (p : Int)).length := ⟨_, rfl⟩
     have hole2 : ol <= 900 := by have := HE.out; have := outs_leB t (p : Int); omega
     rw [<- hole]
     have HOL := hid hole
     clear hss hBb hc2 hm2 hBB HEA HRX HB hole d0 dl hws hbs
     go_wp2_with fail
     go_loopw [10, 12, 26] (fun v10 _ v26 wx => ∃ (r ll : Nat), v26 = .int .i64 r /\ r <= ol /\ ll = (((t.outs (p : Int)).take r).flatMap (shareB C F p)).length /\ wx.ownsRow wb.heap.size 117 2 v10 ll ((((t.outs (p : Int)).take r).flatMap (shareB C F p)).flatMap encS) /\ Below wb.heap.size wb wx) (fun _ _ v26 _ => ol - (intOf v26).toNat)
     case atStart => exact ⟨0, 0, rfl, Nat.zero_le _, rfl, World.ownsRow_nil _ _ _ _, Below.refl _ _⟩
     case round =>
       obtain ⟨r, ll, rfl, hr, hll, hown, hBx⟩ := hrel
       have HOW := hid hown; have HBX := hid hBx; have HLL := hid hll
       have hwx := hBx.size
       clear hown hBx hll
       by_cases hro : r < ol
       · obtain ⟨y, hy⟩ := getElem?_of_lt (xs := t.outs (p : Int)) (i := r) (by rw [<- HOL.out]; exact hro)
         have hss := HSS.out.below (HBB.out.trans (HBX.out.mono hws2)) (Nat.le_refl _)
         obtain rfl := hss.ad (by rw [<- HOL.out]; omega)
         have d0 := hss.s0 hy; have d1 := hss.s1 hy
         have dl := hss.lt (by rw [<- HOL.out]; omega)
         have hyr := offB_false.1 (HR.out.edges _ (mem_outs.1 (List.mem_of_getElem? hy)))
         have HSN : Hid (((t.outs (p : Int)).take (r + 1)).flatMap (shareB C F p) = ((t.outs (p : Int)).take r).flatMap (shareB C F p) ++ shareB C F p y) := hid (by rw [take_snoc hy, List.flatMap_append]; simp)
         obtain ⟨y1, y2⟩ := y
         simp only at hyr d0 d1
         obtain ⟨q, rfl⟩ := Int.eq_ofNat_of_zero_le hyr.2.2.2.2.1
         have hqm : q < m := by have := HN.out; omega
         have hrI : (r : Int) < (ol : Int) := by omega
         have hqI : (q : Int) < (m : Int) := by omega
         have hbw : Below wb.heap.size wb (wr.alloc (.cells #[.int .i64 y1, .int .i64 (q : Int)] 117)) := HBX.out.alloc hwx _
         have HIN := hid (inert_any (c := cc) (HC.out.below (HBB.out.trans (hbw.mono hws2)) (Nat.le_refl _)) hpm hqm y1)
         have hx0 := heap_alloc_new wr (.cells #[.int .i64 y1, .int .i64 (q : Int)] 117)
         have HX0 := hid hx0; have HBW := hid hbw
         have hlm : ll <= 900 * 900 := by
           rw [HLL.out]
           refine Nat.le_trans (share_len (k := 900) (by omega) (fun x => ?_) _) (Nat.mul_le_mul_right _ (by rw [List.length_take]; omega))
           by_cases hx : x ∈ D.take i
           · have h1 := (HF.out x hx).len; have h2 := HE.out; omega
           · rw [HF0.out x hx]; simp
         clear hss hy hyr hbw hx0
         go_upto_region 9 with fail
         go_wp2_with fail
         refine HIN.out.mono ?_
         rintro e V ⟨rfl, hBV⟩
         have hxv := (hBV.block wr.heap.size (by simp)).trans HX0.out
         have f0 : V.cell? ⟨wr.heap.size, 0, none⟩ = some (.int .i64 y1) := by simp [World.cell?, hxv]
         have f1 : V.cell? ⟨wr.heap.size, 1, none⟩ = some (.int .i64 (q : Int)) := by simp [World.cell?, hxv]
         have fl0 := (Array.getElem?_eq_some_iff.1 hxv).1
         have hbv := HBW.out.trans (hBV.mono (by simp; omega))
         have hwv := hbv.size
         have hov : V.ownsRow wb.heap.size 117 2 u10 ll ((((t.outs (p : Int)).take r).flatMap (shareB C F p)).flatMap encS) := own_below (HOW.out.alloc _) hBV
         have HBV := hid hbv; have HOV := hid hov
         clear hxv hBV hbv hov HIN HX0 HBW d0 d1 dl
         by_cases hin : y1 = 0 /\ C q = C p
         · obtain ⟨rfl, hcq⟩ := hin
           have hbt1 : (decide ((0 : Int) = 0) && decide (C q = C p)) = true := by simp [hcq]
           have HSH : Hid (shareB C F p (0, (q : Int)) = F q) := hid (by unfold shareB; simp [hcq])
           rw [hbt1]
           obtain ⟨vq, hvq, hvf, hvo⟩ := (HRB.out.call HBV.out).at hqm
           obtain ⟨va, vc, vb, rfl, _, _, hsl, _⟩ := slAt_own lenS hvo
           have htl := (HRB.out.call HBV.out).size
           have hFl : (F q).length <= 900 := by
             by_cases hx : q ∈ D.take i
             · have h1 := (HF.out q hx).len; have h2 := HE.out; omega
             · rw [HF0.out q hx]; simp
           have HSL := hid hsl
           obtain ⟨fq, hfq⟩ : ∃ fq, fq = (F q).length := ⟨_, rfl⟩
           rw [<- hfq] at hvq hFl
           have HFQ := hid hfq
           clear hbt1 hcq hvf hvo hsl hfq
           go_wp2_with (at_builtin; refine wpList_appS rfl _ _ _ rfl rowS (base := wb.heap.size) hwv rfl HOV.out lenS oneES' HSL.out (by rw [<- HFQ.out]; rfl) (by rw [<- HFQ.out]; omega) (by rw [<- HFQ.out]; unfold maxLen; omega) ?_; intro v3 w3 hown3 hg3; have hb3 := HBV.out.grown hg3 hwv (fun k hk => (HOV.out.lt k hk).1); have HO3 := hid hown3; have HB3 := hid hb3; clear hown3 hg3 hb3)
           go_roundw
           case rel => exact ⟨r + 1, ll + (F q).length, by go_num, by omega, by rw [HSN.out, List.length_append, HSH.out, <- HLL.out], by rw [HSN.out, HSH.out, List.flatMap_append]; exact HO3.out, HB3.out⟩
           case measure => simp [intOf]; omega
         · have hbt1 : (decide (y1 = 0) && decide (C q = C p)) = false := by
             by_cases h1 : y1 = 0
             · by_cases h2 : C q = C p
               · exact absurd ⟨h1, h2⟩ hin
               · simp [h2]
             · simp [h1]
           have HSH : Hid (shareB C F p (y1, (q : Int)) = [(y1, C q)]) := hid (by unfold shareB; simp only [Int.toNat_natCast]; rw [if_neg hin])
           rw [hbt1]
           have hcs := HC.out.below (HBB.out.trans (HBV.out.mono hws2)) (Nat.le_refl _)
           obtain rfl := hcs.ad (by rw [fl_len]; omega)
           have cq := hcs.ci (fl_get C hqm)
           have cl := hcs.lt (by rw [fl_len]; omega)
           obtain ⟨cv, hcv⟩ : ∃ cv, cv = C q := ⟨_, rfl⟩
           rw [<- hcv] at cq HSH
           clear hbt1 hin hcs hcv
           go_wp2_with fail
           go_region_law (first
             | (refine step_app1 rfl _ _ _ rfl rowS rfl (World.ownsRow.drew (HOV.out.alloc _)) ⟨V.heap.size, 0, none⟩ 1 1 [.int .i64 y1, .int .i64 cv] rfl rfl (cells2 (by simp [go_sem]) (by simp [go_sem])) (by simp [Value.oneCell']) (by decide) (by omega) (by unfold maxLen; omega) (by simp; omega) ?_; intro g cap w3 hown3 hg3))
           all_goals
             have hb3 := (bdrew (n := 1) (HBV.out.alloc hwv (.cells #[.int .i64 y1, .int .i64 cv] 117))).grown hg3 (by simp [World.drewN]; omega) (fun k hk => (HOV.out.lt k hk).1)
             have HO3 := hid hown3; have HB3 := hid hb3
             clear hown3 hg3 hb3 cq cl f0 f1 fl0
             go_wp2_with fail
             go_roundw
             case rel => exact ⟨r + 1, ll + 1, by go_num, by omega, by rw [HSN.out, List.length_append, HSH.out, <- HLL.out]; rfl, by rw [HSN.out, HSH.out, List.flatMap_append]; exact HO3.out, HB3.out⟩
             case measure => simp [intOf]; omega
       · obtain rfl : r = ol := by omega
         have e1 : (t.outs (p : Int)).take r = t.outs (p : Int) := by rw [List.take_of_length_le]; have := HOL.out; omega
         have hown := HOW.out
         rw [e1] at hown
         obtain ⟨L, hL⟩ : ∃ L, L = (t.outs (p : Int)).flatMap (shareB C F p) := ⟨_, rfl⟩
         have hll : ll = L.length := by rw [HLL.out, e1, hL]
         have hlm : ll <= 900 * 900 := by
           rw [HLL.out]
           refine Nat.le_trans (share_len (k := 900) (by omega) (fun x => ?_) _) (Nat.mul_le_mul_right _ (by rw [List.length_take]; omega))
           by_cases hx : x ∈ D.take i
           · have h1 := (HF.out x hx).len; have h2 := HE.out; omega
           · rw [HF0.out x hx]; simp
         rw [<- hL, hll] at hown
         have HST := hid (sortedS_any hown (by omega))
         have HLE := hid hL
         clear e1 hown hL hll HOW HLL
         go_wp2_with fail
         refine HST.out.mono ?_
         rintro e w4 ⟨v4, rfl, hown4, hB4⟩
         obtain ⟨va4, vc4, vb4, rfl, _, _, _, _⟩ := slAt_own lenS hown4
         have hb4 : Below wb.heap.size wb w4 := hB4 HBX.out
         have hput := HRB.out.put (p := p) hb4 hbs2 hown4
         have hbw4 := (HBB.out.trans (hb4.mono hws2)).setCell (p := ⟨tb, p, none⟩) hTB (.slice va4 (nf ltS L).length vc4)
         have hbs4 : base <= (w4.setCell ⟨tb, p, none⟩ (.slice va4 (nf ltS L).length vc4)).heap.size := by rw [size_setCell]; have := hb4.size; omega
         obtain ⟨vp, tc, tf, _⟩ := (HRB.out.call hb4).at hpm
         have tl := (HRB.out.call hb4).size
         have HPUT := hid hput; have HBW4 := hid hbw4
         have HSG : Hid (SigOk t C p (nf ltS L)) := hid (by rw [HLE.out]; exact sig_step HR.out HAH.out)
         have hpI2 : (p : Int) < (m : Int) := by omega
         clear hown4 hB4 hb4 hput hbw4 HST HBX
         go_wp2_with fail
         go_roundw
         case rel => exact ⟨i + 1, fun x => if x = p then nf ltS L else F x, by go_num, by omega, HPUT.out, hbs4, HBW4.out, fun x hx => by
           by_cases e : x = p
           · subst e; simp only [if_true]; exact HSG.out
           · simp only [if_neg e]; rw [take_snoc HP.out] at hx; simp [e] at hx; exact HF.out x hx, fun x hx => by
           rw [take_snoc HP.out] at hx; simp at hx; simp only [if_neg hx.2]; exact HF0.out x hx.1⟩
         case measure => simp [intOf]; omega
   · obtain rfl : i = m := by omega
     go_wp2_with fail
     go_ret
     refine ⟨tb, base, F, rfl, HRX.out, hTB, hbs, HB.out, fun p hp => HF.out p ?_⟩
     rw [List.take_of_length_le (by have := HDL.out; omega)]
     exact HALL.out p hp
end Go.Proofs.YtebmlhaoeldhkaaGreatDoor

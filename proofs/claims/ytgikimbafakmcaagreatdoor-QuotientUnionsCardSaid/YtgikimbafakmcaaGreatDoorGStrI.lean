/-
  Lemmas.
-/
import Derived.Test.YtgikimbafakmcaaGreatDoorGStrC
import Derived.Test.YtgikimbafakmcaaGreatDoorGAs
import Derived.Test.YtgikimbafakmcaaGreatDoorGNew
import Derived.Test.YtgikimbafakmcaaGreatDoorGStrE
import Derived.Test.YtgikimbafakmcaaGreatDoorGStrG
import Derived.Test.YtgikimbafakmcaaGreatDoorGPlS
import Derived.Test.YtgikimbafakmcaaGreatDoorGLaidQun
set_option maxHeartbeats 8000000
set_option maxRecDepth 100000
namespace Go.Proofs.YtgikimbafakmcaaGreatDoor
open Go.RowKit Pl
open Lib (hid)
def PlayPost (s : Lts) (n : Nat) (w : World) (e : Ending) (w' : World) : Prop :=
  ∃ (w0 : World) (K : PK) (S : SK), e = .returned (.tuple #[.pointer (some ⟨S.xb, 0, none⟩), .nilIface]) /\ SW w0 w' s.norm K S n id id z0 [(0, n, 0)] z0 z0 [] [] [] /\ Below w.heap.size w w0
theorem newPlayYes_any {p : Addr} {s : Lts} {n : Nat} (h : s.Right) (hn : s.st = (n : Int)) (hn0 : 0 < n) {a : Option Addr} {b off c : Nat} {w : World} (hG : GErr 0 p w) (hS : SlAt encE 3 w a b off s.es) :
    Calls Tryz.prog 107 #[.agg #[.int .i64 s.st, .int .i64 s.lb, .int .i64 s.s0, .slice a s.es.length c]] w (PlayPost s n w) := by
 have hst := h.st0
 have hn1 : n <= 1000 := by omega
 have hB0 := (Below.refl w.heap.size w).alloc (Nat.le_refl _) (Obj.cells #[.int .i64 s.st, .int .i64 s.lb, .int .i64 s.s0, .slice a s.es.length c] 24)
 have hN := new_ok (c := c) h (hG.below hB0) (hS.below hB0 (Nat.le_refl _))
 have hmk := run_make_row' (P := Tryz.prog) 58 3 (.int .i64 0) 8 Tryz.underlying58 (by kernel_rfl) rfl .i64 .i64 n (by omega) (by omega)
 have HN := hid hN; have HB0 := hid hB0; have HNN := hid hn
 have hnn : s.norm.st = (n : Int) := hn
 have HNM := hid hnn
 clear hN hB0 hS hG h hn hst hnn
 go_enter Tryz.func107, Tryz.ntmps107
 go_wp2_with fail
 refine HN.out.mono ?_
 rintro e w0 ⟨gb, rfl, hGr, hB1, _⟩
 have HGR := hid hGr
 have HW0 := hid (HB0.out.trans (hB1.mono (by simp)))
 have hs1 := getStates_any hGr
 rw [HNM.out] at hs1
 have HS1 := hid hs1
 clear hGr hB1 hs1 HN HB0
 go_wp2_with fail
 refine HS1.out.mono ?_
 rintro e w1 ⟨rfl, hB1⟩
 have hr1 := ((Rws.nil hB1).addLit (madeCells #[.int .i64 0] n) 3 (k := 1) (n := n) (by unfold maxLen; omega) (by simp [size_madeCells])).addLit #[.pointer (some ⟨gb, 0, none⟩), .pointer none, .slice (some ⟨w1.heap.size, 0, none⟩) n n, .slice none 0 0, .slice none 0 0, .slice none 0 0, .slice none 0 0] 167 (k := 7) (n := 1) (by unfold maxLen; omega) rfl
 rw [madeI] at hr1
 have hz1 : (w1.alloc (.cells (madeCells #[.int .i64 0] n) 3)).heap.size = w1.heap.size + 1 := by simp
 rw [hz1] at hr1
 have HR1 := hid hr1
 clear hr1 hz1 hB1 HS1
 go_upto_region 5 with fail
 obtain ⟨V, hV⟩ : ∃ V, V = (w1.alloc (.cells (madeCells #[.int .i64 0] n) 3)).alloc (.cells #[.pointer (some ⟨gb, 0, none⟩), .pointer none, .slice (some ⟨w1.heap.size, 0, none⟩) n n, .slice none 0 0, .slice none 0 0, .slice none 0 0, .slice none 0 0] 167) := ⟨_, rfl⟩
 obtain ⟨hb, hhb⟩ : ∃ hb, hb = w1.heap.size := ⟨_, rfl⟩
 obtain ⟨xb, hxb⟩ : ∃ xb, xb = w1.heap.size + 1 := ⟨_, rfl⟩
 rw [<- hV] at HR1 ⊢
 rw [<- hhb] at HR1 hxb ⊢
 rw [<- hxb] at HR1 ⊢
 clear hV hhb hxb
 have hs2 := getStates_any (HGR.out.below HR1.out.bel)
 rw [HNM.out] at hs2
 have HS2 := hid hs2
 clear hs2
 go_wp2_with fail
 refine HS2.out.mono ?_
 rintro e w2 ⟨rfl, hB2⟩
 have HNEW := hid (parNew_any (HR1.out.call hB2) hn0 hn1)
 clear hB2 HS2
 go_wp2_with fail
 refine HNEW.out.mono ?_
 rintro e w3 ⟨K, rfl, hpw⟩
 have HPW := hid hpw
 have x1 := hpw.rws.cell (i := 5) rfl (j := 1) rfl
 have xf := hpw.rws.fz (i := 5) rfl 1
 have xl := (hpw.rws.lt (i := 5) rfl).2
 have hr4 := ((hpw.rws.set 5 rfl 1 (.pointer (some ⟨K.pb, 0, none⟩))).addNil 58 1).addNil 3 1
 have HR4 := hid hr4
 clear hpw hr4 HNEW HR1
 go_upto_region 6 with fail
 obtain ⟨Y, hY⟩ : ∃ Y, Y = w3.setCell ⟨xb, 1, none⟩ (.pointer (some ⟨K.pb, 0, none⟩)) := ⟨_, rfl⟩
 rw [<- hY] at HR4 ⊢
 clear hY x1 xf xl
 have hs3 := getStates_any (HGR.out.below HR4.out.bel)
 rw [HNM.out] at hs3
 have HS3 := hid hs3
 clear hs3
 go_wp2_with fail
 refine HS3.out.mono ?_
 rintro e w5 ⟨rfl, hB5⟩
 have hr5 := HR4.out.call hB5
 have x6 := hr5.cell (i := 7) rfl (j := 6) rfl
 have xf := hr5.fz (i := 7) rfl 6
 have xl := (hr5.lt (i := 7) rfl).2
 have hr6 := (hr5.set 7 rfl 6 (.slice (some ⟨w5.heap.size, 0, none⟩) n n)).addLit (madeCells #[.int .i64 0] n) 3 (k := 1) (n := n) (by unfold maxLen; omega) (by simp [size_madeCells])
 rw [madeI, size_setCell] at hr6
 have hr7 := hr6.perm (List.perm_append_comm (l₁ := [_, _, _]))
 have hsw : SW w0 ((w5.setCell ⟨xb, 6, none⟩ (.slice (some ⟨w5.heap.size, 0, none⟩) n n)).alloc (.cells (madeCells #[.int .i64 0] n) 3)) s.norm K ⟨xb, gb, hb, w5.heap.size, none, 0, none, 0⟩ n id id z0 [(0, n, 0)] z0 z0 [] [] [] := ⟨⟨hr7, HPW.out.pi, hn1⟩, HGR.out, HNM.out⟩
 have HSW := hid hsw
 clear hB5 hr5 hr6 hr7 hsw HS3
 go_wp2_with fail
 go_ret2
 exact ⟨w0, K, _, rfl, HSW.out, HW0.out⟩
end Go.Proofs.YtgikimbafakmcaaGreatDoor
namespace Go.Proofs.YtgikimbafakmcaaGreatDoor
open Go.RowKit Pl
open Lib (hid)
def RefPost (s : Lts) (n : Nat) (w : World) (e : Ending) (w' : World) : Prop :=
  ∃ (inn ga : Nat -> Nat) (cg cc : Nat) (ta : Option Addr) (tn tc : Nat) (ba : Option Addr) (bb bc : Nat), Big s n (fun p => (inn p : Int)) /\ (∀ p, p < n -> 1 <= ga p /\ 2 ^ (ga p - 1) <= n) /\
    e = .returned (.tuple #[.agg #[.slice (some ⟨cg, 0, none⟩) n cc, .slice ta tn tc, .slice ba n bc], .nilIface]) /\ w'.ownsRow w.heap.size 3 1 (.slice (some ⟨cg, 0, none⟩) n cc) n ((canon (flN n inn)).flatMap encI) /\ SlAt encI 1 w' ba bb 0 (flN n ga) /\ Below w.heap.size w w'
theorem hbk_of {n : Nat} {el pl inn hp : Nat -> Nat} {bl : List B3} {H : Nat} {s : Lts} (hi : PI n el pl inn bl) (hr : Run s n inn hp H) {b : Nat} (hb : b < bl.length) : ∀ p, p < n -> inn p = b -> hp p = hbk el hp bl b := fun p hpn e => by
  obtain ⟨q, hq, h1, h2⟩ := hi.hbk (hp := hp) hb
  rw [h2]
  exact hr.sub p q hpn hq (by rw [e, h1])
theorem heaps_one {n : Nat} {el pl inn hp : Nat -> Nat} {bl : List B3} {H : Nat} {s : Lts} (hi : PI n el pl inn bl) (hr : Run s n inn hp H) (h : ∀ k, k < H -> (bksOf el hp bl bl.length k).length < 2) : ∀ p q, p < n -> q < n -> hp p = hp q -> inn p = inn q := fun p q hpn hqn e => by
  apply Classical.byContradiction
  intro hne
  have hp1 := hi.lt hpn; have hq1 := hi.lt hqn
  have h1 : inn p ∈ bksOf el hp bl bl.length (hp p) := mem_bks.2 ⟨hp1, (hbk_of hi hr hp1 p hpn rfl).symm⟩
  have h2 : inn q ∈ bksOf el hp bl bl.length (hp p) := mem_bks.2 ⟨hq1, by rw [e]; exact (hbk_of hi hr hq1 q hqn rfl).symm⟩
  have h3 := h (hp p) (hr.rng p hpn)
  have h4 := nodup_le (l := [inn p, inn q]) (m := bksOf el hp bl bl.length (hp p)) (by simp [hne]) (fun x hx => by
    simp at hx
    rcases hx with rfl | rfl
    · exact h1
    · exact h2)
  simp at h4; omega
theorem refineYes_any {p : Addr} {s : Lts} {n : Nat} (h : s.Right) (hn : s.st = (n : Int)) (hn0 : 0 < n) {a : Option Addr} {b off c : Nat} {w : World} (hG : GErr 0 p w) (hS : SlAt encE 3 w a b off s.es) :
    Calls Tryz.prog 98 #[.agg #[.int .i64 s.st, .int .i64 s.lb, .int .i64 s.s0, .slice a s.es.length c]] w (RefPost s.norm n w) := by
 have hst := h.st0
 have hn1 : n <= 1000 := by omega
 have hB0 := ((Below.refl w.heap.size w).alloc (Nat.le_refl _) (Obj.cells #[.int .i64 s.st, .int .i64 s.lb, .int .i64 s.s0, .slice a s.es.length c] 24)).alloc (by simp) (Obj.cells #[.slice none 0 0, .slice none 0 0, .slice none 0 0] 141)
 have hrb := heap_alloc_at (w.alloc (Obj.cells #[.int .i64 s.st, .int .i64 s.lb, .int .i64 s.s0, .slice a s.es.length c] 24)) (Obj.cells #[.slice none 0 0, .slice none 0 0, .slice none 0 0] 141) (w.heap.size + 1) (by simp)
 have hN := newPlayYes_any (c := c) h hn hn0 (hG.below hB0) (hS.below hB0 (Nat.le_refl _))
 have hneq := fun (W : World) (a : Option Addr) (m c : Nat) => run_neq_slice_nil_any (P := Tryz.prog) W 58 3 a m c 0 0 Tryz.underlying58
 have HN := hid hN; have HB0 := hid hB0; have HRB := hid hrb
 have HRN := hid h.norm; have HNN := hid hn
 clear hN hB0 hS hG h hst hrb hn
 go_enter Tryz.func98, Tryz.ntmps98
 go_wp2_with fail
 refine HN.out.mono ?_
 unfold PlayPost
 rintro e w1 ⟨w0, K, S, rfl, hsw, hbw⟩
 obtain ⟨rb, hrb⟩ : ∃ rb, rb = w.heap.size + 1 := ⟨_, rfl⟩
 rw [<- hrb] at HRB ⊢
 have hrbl : rb < w0.heap.size := by have := hbw.size; simp at this; omega
 have hrbg : w.heap.size <= rb := by omega
 have HRB0 : Hid (w0.heap[rb]? = some (.cells #[.slice none 0 0, .slice none 0 0, .slice none 0 0] 141 (0, 0))) := hid ((hbw.block rb (by simp; omega)).trans HRB.out)
 have HBW := hid (HB0.out.trans (hbw.mono (by simp; omega)))
 have HSW := hid hsw
 have hst := getStates_any (hsw.gr.below hsw.par.rws.bel)
 rw [hsw.st] at hst
 have HST := hid hst
 obtain ⟨x0, _, _, _, _, _, _, xl⟩ := hsw.run.sCells
 have hnb : ((n : Int) == 0) = false := by simp; omega
 clear hsw hbw hrb hst HRB HB0 HN
 go_wp2_with fail
 refine HST.out.mono ?_
 rintro e w2 ⟨rfl, hB2⟩
 have hbg := begin_any (HSW.out.call hB2) (fun z _ => none_one n z) (fun p _ => by unfold z0; omega) (by simp)
 have HBG := hid hbg
 clear hB2 hbg HST x0 xl
 go_wp2_with fail
 refine HBG.out.mono ?_
 unfold BeginPost
 rintro e w3 ⟨rfl, K1, S1, el1, pl1, inn1, bl1, aa, ac, hsw1, hpb1, hxb1, hun1, hsb1⟩
 have hrs := RunS.begin hn0 hsb1
 have HSM := hid (smallest_any hsw1 (by simp) (by simp) (fun q _ => by unfold z0; simp))
 rw [hxb1] at HSM
 have HXB := hid hxb1; have HUN1 := hid hun1; have HRS := hid hrs; have HSW1 := hid hsw1
 clear hsw1 hpb1 hun1 hsb1 hrs hxb1 HBG HSW
 go_wp2_with fail
 refine HSM.out.mono ?_
 rintro e w4 hsp
 have HINIT : Hid (∃ (v : Value), e = .returned v /\ ∃ (K' : PK) (S' : SK) (el pl inn hp ga : Nat -> Nat) (bl : List B3) (sz : List Int) (tl : List Value) (rest : List Rw), S'.xb = S.xb /\ RunS s.norm n inn hp ga sz /\ (∀ z, z < n -> ¬ Mkd pl inn bl z) /\ PI n el pl inn bl /\ GraphAt w0 S'.gb s.norm /\ tl.length <= sz.length /\ SmallPost w0 K' S' n el pl inn bl hp ga sz tl rest (.returned v) w4) := hid (by (
 have h1 : ∃ v, e = .returned v := by (
 rcases hsp with ⟨rfl, _⟩ | ⟨_, _, _, _, rfl, _⟩
 · exact ⟨_, rfl⟩
 · exact ⟨_, rfl⟩)
 obtain ⟨v, rfl⟩ := h1
 exact ⟨v, rfl, K1, S1, el1, pl1, inn1, _, _, bl1, _, _, _, HXB.out, HRS.out, HUN1.out, HSW1.out.par.pi, HSW1.out.gr, by simp, hsp⟩))
 obtain ⟨v, rfl, hv⟩ := HINIT.out
 have HV := hid hv
 have hnst : s.norm.st = (n : Int) := HNN.out
 have HNST := hid hnst
 clear hv hnst HINIT hsp HSM HXB HUN1 HRS HSW1
 go_wp2_with fail
 go_loopg [6] (n + 1) (fun g v6 wr => ∃ (K' : PK) (S' : SK) (el pl inn hp ga : Nat -> Nat) (bl : List B3) (sz : List Int) (tl : List Value) (rest : List Rw), n + 1 <= g + sz.length /\ S'.xb = S.xb /\ RunS s.norm n inn hp ga sz /\ (∀ z, z < n -> ¬ Mkd pl inn bl z) /\ PI n el pl inn bl /\ GraphAt w0 S'.gb s.norm /\ tl.length <= sz.length /\ SmallPost w0 K' S' n el pl inn bl hp ga sz tl rest (.returned v6) wr)
 case atStart =>
   obtain ⟨K', S', el, pl, inn, hp, ga, bl, sz, tl, rest, hr⟩ := HV.out
   exact ⟨K', S', el, pl, inn, hp, ga, bl, sz, tl, rest, by omega, hr⟩
 case round => (
 obtain ⟨K', S', el, pl, inn, hp, ga, bl, sz, tl, rest, hgk, hxb, hrs, hun, hpi, hgr, htl, hsp⟩ := hrel
 have HXB := hid hxb; have HRS := hid hrs; have HUN := hid hun; have HPI := hid hpi; have HGR := hid hgr
 have hfew := hrs.few
 clear hxb hrs hun hpi hgr HV
 rcases hsp with ⟨hv6, hone, hrw⟩ | ⟨b, c, g, cap, hv6, hbl, hcl, hbc, hbk1, hle, hpos, hrw⟩
 · (
 have hv6 : u6 = .slice none 0 0 := Ending.returned.inj hv6
 subst hv6
 have HBIG := hid (HRS.out.done (heaps_one HPI.out HRS.out.run hone))
 have HGA := hid (fun p hp => HRS.out.gau.le (p := p) hp)
 have HRW := hid hrw
 have HC := hid (parClasses_any (rest := SR S' K'.pb n hp ga sz tl ++ rest) ⟨hrw, HPI.out, hn1⟩)
 have hx := (hrw.sub (List.sublist_append_right _ _)).sCells
 have x1 := hx.2.1
 have xl := hx.2.2.2.2.2.2.2
 rw [HXB.out] at x1 xl
 clear hx hone hrw HRS HUN HPI HGR
 go_upto_region 11 with fail
 go_wp2_with fail
 refine HC.out.mono ?_
 unfold OwnI
 rintro e w5 ⟨cv, rfl, hown, hB5⟩
 have hcl : (canon (flN n inn)).length = n := by rw [canon_len, flN_len]
 rw [hcl] at hown
 obtain ⟨cg, cc, rfl, hz1, hz2⟩ := hown.form hn0
 clear hz1 hz2
 have hr5 := HRW.out.call hB5
 have hxb := HXB.out
 have x4 := hr5.cell (i := 5) rfl (j := 4) rfl
 have xf := hr5.fz (i := 5) rfl 4
 have hr6 := hr5.set 5 rfl 4 (.slice (some ⟨cg, 0, none⟩) n cc)
 have y4 := hr6.cell (i := 5) rfl (j := 4) rfl
 have y5 := hr6.cell (i := 5) rfl (j := 5) rfl
 have y6 := hr6.cell (i := 5) rfl (j := 6) rfl
 have hsl := hr6.slO (i := 7) (ys := flN n ga) rfl lenI (flN_len n ga).symm
 have hqx : S'.qb ≠ S'.xb := hr6.ne' (i := 7) (j := 5) rfl rfl (by decide)
 have hqlo := (hr6.lt (i := 7) rfl).1
 have hxlo := (hr6.lt (i := 5) rfl).1
 have hxl := (hr5.lt (i := 5) rfl).2
 have hr5s := hr5.bel.size
 have hgl : ∀ k, (Value.slice (some ⟨cg, 0, none⟩) n cc).ownBlock = some k -> wr.heap.size <= k := fun k hk => (hown.lt k hk).1
 have hxw := (HRW.out.lt (i := 5) rfl).2
 rw [hxb] at x4 xf hr6 y4 y5 y6 hqx hxlo hxl hxw hsl
 have hown6 : (w5.setCell ⟨S.xb, 4, none⟩ (.slice (some ⟨cg, 0, none⟩) n cc)).ownsRow wr.heap.size 3 1 (.slice (some ⟨cg, 0, none⟩) n cc) n ((canon (flN n inn)).flatMap encI) := own_blockR hown (fun k hk => Below.heap_setCell _ _ _ _ (by have := hgl k hk; show k ≠ S.xb; omega))
 have hrb := (hr6.bel.block rb hrbl).trans HRB0.out
 obtain ⟨Y, hY⟩ : ∃ Y, Y = w5.setCell ⟨S.xb, 4, none⟩ (.slice (some ⟨cg, 0, none⟩) n cc) := ⟨_, rfl⟩
 rw [<- hY] at hown6 hrb hr6 y4 y5 y6 hsl
 have r0 : Y.cell? ⟨rb, 0, none⟩ = some (.slice none 0 0) := by simp [World.cell?, hrb]
 have r1 : Y.cell? ⟨rb, 1, none⟩ = some (.slice none 0 0) := by simp [World.cell?, hrb]
 have r2 : Y.cell? ⟨rb, 2, none⟩ = some (.slice none 0 0) := by simp [World.cell?, hrb]
 have rf : ∀ j, Y.frozen? ⟨rb, j, none⟩ = false := fun j => by simp [World.frozen?, hrb]
 have rf0 := rf 0; have rf1 := rf 1; have rf2 := rf 2
 have rl : rb < Y.heap.size := (Array.getElem?_eq_some_iff.1 hrb).1
 have xlY : S.xb < Y.heap.size := by rw [hY, size_setCell]; exact hxl
 have hbY := hid (HBW.out.trans (hr6.bel.mono HBW.out.size))
 have hwr : w0.heap.size <= wr.heap.size := HRW.out.bel.size
 have HSL := hid hsl; have HOWN := hid hown6; have HGL := hid hgl
 have hne : S'.qb ≠ rb := by omega
 have hxrb : S.xb ≠ rb := by omega
 have HY := hid hY
 clear hown hB5 hcl hr5 hr6 hsl hown6 hrb rf hgl hY hxb HC HRW HNST HRN HNN
 go_upto_region 12 with fail
 rw [<- HY.out]
 go_wp2_with fail
 have hz1 : Hid (((((Y.setCell ⟨rb, 0, none⟩ (.slice (some ⟨cg, 0, none⟩) n cc)).setCell ⟨rb, 1, none⟩ (.slice S'.ta tl.length S'.tc)).setCell ⟨rb, 2, none⟩ (.slice (some ⟨S'.qb, 0, none⟩) n n)).ownsRow w.heap.size 3 1 (.slice (some ⟨cg, 0, none⟩) n cc) n ((canon (flN n inn)).flatMap encI))) := hid (by (
 have hcg := HGL.out cg rfl
 have h1 : ∀ k, (Value.slice (some ⟨cg, 0, none⟩) n cc).ownBlock = some k -> k ≠ rb := fun k hk => by simp only [Value.ownBlock, Option.some.injEq] at hk; omega
 have hws := HBW.out.size
 exact own_mono (own_blockR (own_blockR (own_blockR HOWN.out (fun k hk => Below.heap_setCell _ _ _ _ (h1 k hk))) (fun k hk => Below.heap_setCell _ _ _ _ (h1 k hk))) (fun k hk => Below.heap_setCell _ _ _ _ (h1 k hk))) (by omega)))
 have hz2 : Hid (SlAt encI 1 (((Y.setCell ⟨rb, 0, none⟩ (.slice (some ⟨cg, 0, none⟩) n cc)).setCell ⟨rb, 1, none⟩ (.slice S'.ta tl.length S'.tc)).setCell ⟨rb, 2, none⟩ (.slice (some ⟨S'.qb, 0, none⟩) n n)) (some ⟨S'.qb, 0, none⟩) S'.qb 0 (flN n ga)) :=
   hid ((((show SlAt encI 1 Y (some ⟨S'.qb, 0, none⟩) S'.qb 0 (flN n ga) from HSL.out).setOther (p := ⟨rb, 0, none⟩) (fun _ => hne) _).setOther (p := ⟨rb, 1, none⟩) (fun _ => hne) _).setOther (p := ⟨rb, 2, none⟩) (fun _ => hne) _)
 have hz3 := hid (((hbY.out.setCell (p := ⟨rb, 0, none⟩) hrbg (.slice (some ⟨cg, 0, none⟩) n cc)).setCell (p := ⟨rb, 1, none⟩) hrbg (.slice S'.ta tl.length S'.tc)).setCell (p := ⟨rb, 2, none⟩) hrbg (.slice (some ⟨S'.qb, 0, none⟩) n n))
 refine bodyPost_ret (v := .tuple #[.agg #[.slice (some ⟨cg, 0, none⟩) n cc, .slice S'.ta tl.length S'.tc, .slice (some ⟨S'.qb, 0, none⟩) n n], .nilIface]) (by simp [results, Tryz.results98, go_sem, r0, r1, r2]) rfl ?_
 exact ⟨inn, ga, _, _, _, _, _, _, S'.qb, n, HBIG.out, HGA.out, rfl, hz1.out, hz2.out, hz3.out⟩)
 · (
 have hv6 : u6 = .slice (some ⟨g, 0, none⟩) (memN n inn b).length cap := Ending.returned.inj hv6
 subst hv6
 have hI : ∀ w', Rws w0 w' (⟨3, 1, .slice (some ⟨g, 0, none⟩) (memN n inn b).length cap, (memN n inn b).length, ((memN n inn b).map Int.ofNat).flatMap encI⟩ :: rest) -> SlAt encI 1 w' (some ⟨g, 0, none⟩) g 0 ((memN n inn b).map Int.ofNat) := fun w' hw => hw.slO (i := 0) rfl lenI (by simp)
 have hsw : SW w0 wr s.norm K' S' n el pl inn bl hp ga sz tl (⟨3, 1, .slice (some ⟨g, 0, none⟩) (memN n inn b).length cap, (memN n inn b).length, ((memN n inn b).map Int.ofNat).flatMap encI⟩ :: rest) := ⟨⟨hrw.dig, HPI.out, hn1⟩, HGR.out, HNST.out⟩
 obtain ⟨p0, hp0⟩ : ∃ p0, (memN n inn b)[0]? = some p0 := ⟨_, List.getElem?_eq_getElem hpos⟩
 have hpm := mem_memN.1 (List.mem_of_getElem? hp0)
 have hph := hbk_of HPI.out HRS.out.run hbl p0 hpm.1 hpm.2
 have hsz := HRS.out.szs (hp p0) (HRS.out.run.rng p0 hpm.1)
 have hmle := memN_le (n := n) hp (hp p0)
 have hT := take_any hsw HUN.out (fun p hpn => Nat.le_trans (HRS.out.gau.small hpn) (by omega)) (by omega) (by omega) (fun t ht => (mem_memN.1 ht).1) (memN_nodup inn b) hp0 hsz ⟨by omega, by omega⟩ (ic := cap) hI
 rw [HXB.out] at hT
 have HT := hid hT
 have HB := hid (hbk_of HPI.out HRS.out.run hbl)
 have HCC := hid (hbk_of HPI.out HRS.out.run hcl)
 have HPH := hid hph; have HBC := hid hbc; have HBK := hid hbk1; have HLE := hid hle; have HPOS := hid hpos
 obtain ⟨ml, hml⟩ : ∃ ml, ml = (memN n inn b).length := ⟨_, rfl⟩
 rw [<- hml] at HT ⊢
 have HML := hid hml
 clear hI hsw hp0 hpm hph hsz hmle hT hrw hbl hcl hbc hbk1 hle hpos hml
 go_wp2_with fail
 refine HT.out.mono ?_
 unfold TakePost
 rintro e w5 ⟨rfl, K2, S2, el2, pl2, inn1, inn2, bl2, sh, hsh, hsw2, hpb2, hxb2, hun2, hs1, hs2⟩
 have hrs2 := HRS.out.take (b := b) (c := c) (h := hp p0) (fun q hq e => by rw [HB.out q hq e, HPH.out]) (fun q hq e => by rw [HCC.out q hq e, HPH.out]; exact HBK.out.symm) HBC.out HLE.out HPOS.out hs1 hs2 hsh
 have hlen2 : ((sz ++ [((memN n inn b).length : Int)]).set (hp p0) (sh - (memN n inn b).length)).length = sz.length + 1 := by simp
 have hfew2 := hrs2.few
 have HSM := smallest_any hsw2 (by omega) (by rw [hlen2]; omega) (fun q hq => hrs2.run.rng q hq)
 have hxb3 := hxb2.trans HXB.out
 rw [hxb3] at HSM
 have HSM := hid HSM
 have HRS2 := hid hrs2; have HUN2 := hid hun2; have HPI2 := hid hsw2.par.pi; have HGR2 := hid hsw2.gr; have HXB3 := hid hxb3; have HL2 := hid hlen2
 clear hsh hsw2 hpb2 hxb2 hun2 hs1 hs2 hrs2 hlen2 hfew2 hxb3 HT HRS HUN HPI HGR HB HCC
 go_wp2_with fail
 refine HSM.out.mono ?_
 rintro e w6 hsp
 have h1 : ∃ v, e = .returned v := by (
 rcases hsp with ⟨rfl, _⟩ | ⟨_, _, _, _, rfl, _⟩
 · exact ⟨_, rfl⟩
 · exact ⟨_, rfl⟩)
 obtain ⟨v, rfl⟩ := h1
 have HSP := hid hsp
 clear hsp HSM
 go_wp2_with fail
 go_roundg (gk - 1)
 case rel => exact ⟨K2, S2, el2, pl2, inn2, _, _, bl2, _, _, _, by rw [HL2.out]; omega, HXB3.out, HRS2.out, HUN2.out, HPI2.out, HGR2.out, by rw [HL2.out]; simp; omega, HSP.out⟩
 case measure => omega))
end Go.Proofs.YtgikimbafakmcaaGreatDoor
namespace Go.Proofs.YtgikimbafakmcaaGreatDoor
open Go.RowKit Pl
open Lib (hid)
def PlayZ (w : World) (xb gb : Nat) : Prop := ∃ pb hb qb, w.heap[xb]? = some (.cells #[.pointer (some ⟨gb, 0, none⟩), .pointer (some ⟨pb, 0, none⟩), .slice (some ⟨hb, 0, none⟩) 0 0, .slice none 0 0, .slice none 0 0, .slice none 0 0, .slice (some ⟨qb, 0, none⟩) 0 0] 167 (0, 0)) /\ ParZ w pb
theorem newPlayZero_any {p : Addr} {s : Lts} (h : s.Right) (hn : s.st = 0) {a : Option Addr} {b off c : Nat} {w : World} (hG : GErr 0 p w) (hS : SlAt encE 3 w a b off s.es) :
    Calls Tryz.prog 107 #[.agg #[.int .i64 s.st, .int .i64 s.lb, .int .i64 s.s0, .slice a s.es.length c]] w fun e w' => ∃ xb gb, e = .returned (.tuple #[.pointer (some ⟨xb, 0, none⟩), .nilIface]) /\ PlayZ w' xb gb /\ GraphAt w' gb s.norm /\ Below w.heap.size w w' := by
 have hB0 := (Below.refl w.heap.size w).alloc (Nat.le_refl _) (Obj.cells #[.int .i64 s.st, .int .i64 s.lb, .int .i64 s.s0, .slice a s.es.length c] 24)
 have hN := new_ok (c := c) h (hG.below hB0) (hS.below hB0 (Nat.le_refl _))
 have hmk : ∀ w, (Instr.makeSlice 58 (.int .i64 0) (.int .i64 0)).run Tryz.prog w = .ok (.slice (some ⟨w.heap.size, 0, none⟩) 0 0) (w.alloc (.cells #[] 3)) := fun _ => by kernel_rfl
 have HN := hid hN; have HB0 := hid hB0
 have HNM : Hid (s.norm.st = 0) := hid hn
 clear hN hB0 hS hG h hn
 go_enter Tryz.func107, Tryz.ntmps107
 go_wp2_with fail
 refine HN.out.mono ?_
 rintro e w0 ⟨gb, rfl, hGr, hB1, _⟩
 have HGR := hid hGr
 have HW0 := hid (HB0.out.trans (hB1.mono (by simp)))
 have hs1 := getStates_any hGr
 rw [HNM.out] at hs1
 have HS1 := hid hs1
 clear hGr hB1 hs1 HN HB0
 go_wp2_with fail
 refine HS1.out.mono ?_
 rintro e w1 ⟨rfl, hB1⟩
 have hx1 := heap_alloc_at (w1.alloc (.cells #[] 3)) (.cells #[.pointer (some ⟨gb, 0, none⟩), .pointer none, .slice (some ⟨w1.heap.size, 0, none⟩) 0 0, .slice none 0 0, .slice none 0 0, .slice none 0 0, .slice none 0 0] 167) (w1.heap.size + 1) (by simp)
 have hB2 := (hB1.alloc hB1.size (.cells #[] 3)).alloc (by have := hB1.size; simp; omega) (.cells #[.pointer (some ⟨gb, 0, none⟩), .pointer none, .slice (some ⟨w1.heap.size, 0, none⟩) 0 0, .slice none 0 0, .slice none 0 0, .slice none 0 0, .slice none 0 0] 167)
 have hlo : w0.heap.size <= w1.heap.size + 1 := by have := hB1.size; omega
 go_upto_region 5 with fail
 obtain ⟨V, hV⟩ : ∃ V, V = (w1.alloc (.cells #[] 3)).alloc (.cells #[.pointer (some ⟨gb, 0, none⟩), .pointer none, .slice (some ⟨w1.heap.size, 0, none⟩) 0 0, .slice none 0 0, .slice none 0 0, .slice none 0 0, .slice none 0 0] 167) := ⟨_, rfl⟩
 obtain ⟨hb, hhb⟩ : ∃ hb, hb = w1.heap.size := ⟨_, rfl⟩
 obtain ⟨xb, hxb⟩ : ∃ xb, xb = w1.heap.size + 1 := ⟨_, rfl⟩
 rw [<- hV] at hx1 hB2 ⊢
 rw [<- hxb] at hx1 hlo ⊢
 rw [<- hhb] at hx1
 have HX1 := hid hx1; have HB2 := hid hB2
 have hs2 := getStates_any (HGR.out.below hB2)
 rw [HNM.out] at hs2
 have HS2 := hid hs2
 clear hV hhb hxb hx1 hB1 hB2 hs2 HS1
 go_wp2_with fail
 refine HS2.out.mono ?_
 rintro e w2 ⟨rfl, hB3⟩
 have HX2 := hid ((hB3.block xb (Array.getElem?_eq_some_iff.1 HX1.out).1).trans HX1.out)
 have HB3 := hid (HB2.out.trans (hB3.mono HB2.out.size))
 clear hB3 HS2 HX1 HB2
 go_wp2_with fail
 refine (parNew_zero w2).mono ?_
 rintro e w3 ⟨pb, rfl, hpz, hB4, hpl⟩
 have hx3 := (hB4.block xb (Array.getElem?_eq_some_iff.1 HX2.out).1).trans HX2.out
 have x1 : w3.cell? ⟨xb, 1, none⟩ = some (.pointer none) := by simp [World.cell?, hx3]
 have xf : w3.frozen? ⟨xb, 1, none⟩ = false := by simp [World.frozen?, hx3]
 have xl := (Array.getElem?_eq_some_iff.1 hx3).1
 have hx4 := heap_setCell_same w3 xb 1 _ _ (.pointer (some ⟨pb, 0, none⟩)) hx3
 have hxlt := (Array.getElem?_eq_some_iff.1 HX2.out).1
 have hpz4 : ParZ (w3.setCell ⟨xb, 1, none⟩ (.pointer (some ⟨pb, 0, none⟩))) pb := by
   obtain ⟨qb, bb, ia, ic, h⟩ := hpz
   exact ⟨qb, bb, ia, ic, by rw [Below.heap_setCell _ _ _ _ (show pb ≠ xb by omega)]; exact h⟩
 have hB5 := (HB3.out.trans (hB4.mono HB3.out.size)).setCell (p := ⟨xb, 1, none⟩) hlo (.pointer (some ⟨pb, 0, none⟩))
 go_upto_region 6 with fail
 obtain ⟨Y, hY⟩ : ∃ Y, Y = w3.setCell ⟨xb, 1, none⟩ (.pointer (some ⟨pb, 0, none⟩)) := ⟨_, rfl⟩
 rw [<- hY] at hx4 hpz4 hB5 ⊢
 have HX4 := hid hx4; have HPZ := hid hpz4; have HB5 := hid hB5
 have hs3 := getStates_any (HGR.out.below hB5)
 rw [HNM.out] at hs3
 have HS3 := hid hs3
 clear hY x1 xf xl hx3 hx4 hpz hpz4 hB4 hB5 hs3 HX2 HB3 hxlt hpl
 go_wp2_with fail
 refine HS3.out.mono ?_
 rintro e w5 ⟨rfl, hB6⟩
 have hx5 := (hB6.block xb (Array.getElem?_eq_some_iff.1 HX4.out).1).trans HX4.out
 have x6 : w5.cell? ⟨xb, 6, none⟩ = some (.slice none 0 0) := by simp [World.cell?, hx5]
 have xf : w5.frozen? ⟨xb, 6, none⟩ = false := by simp [World.frozen?, hx5]
 have xl := (Array.getElem?_eq_some_iff.1 hx5).1
 have hx6 := heap_setCell_same w5 xb 6 _ _ (.slice (some ⟨w5.heap.size, 0, none⟩) 0 0) hx5
 have hx7 := (Below.heap_alloc (w5.setCell ⟨xb, 6, none⟩ (.slice (some ⟨w5.heap.size, 0, none⟩) 0 0)) (.cells #[] 3) xb (by rw [size_setCell]; exact xl)).trans hx6
 have hpz5 := HPZ.out.below hB6
 have hpz7 : ParZ ((w5.setCell ⟨xb, 6, none⟩ (.slice (some ⟨w5.heap.size, 0, none⟩) 0 0)).alloc (.cells #[] 3)) pb := by (
 obtain ⟨qb, bb, ia, ic, h⟩ := hpz5
 refine ⟨qb, bb, ia, ic, ?_⟩
 have hne : pb ≠ xb := fun e => by
   rw [e, hx5] at h
   injection h with h; injection h with _ h; exact absurd h (by decide)
 rw [Below.heap_alloc _ _ _ (by rw [size_setCell]; exact (Array.getElem?_eq_some_iff.1 h).1), Below.heap_setCell _ _ _ _ (show pb ≠ xb from hne)]
 exact h)
 have hB7 := ((HB5.out.trans (hB6.mono HB5.out.size)).setCell (p := ⟨xb, 6, none⟩) hlo (.slice (some ⟨w5.heap.size, 0, none⟩) 0 0)).alloc (by rw [size_setCell]; have := HB5.out.size; have := hB6.size; omega) (.cells #[] 3)
 have hgr7 := HGR.out.below hB7
 have HFIN : Hid (PlayZ ((w5.setCell ⟨xb, 6, none⟩ (.slice (some ⟨w5.heap.size, 0, none⟩) 0 0)).alloc (.cells #[] 3)) xb gb) := hid ⟨pb, hb, w5.heap.size, hx7, hpz7⟩
 have HB7 := hid (HW0.out.trans (hB7.mono HW0.out.size)); have HGR7 := hid hgr7
 clear hx5 hx6 hx7 hpz5 hpz7 hB6 hB7 hgr7 HS3 HX4 HPZ HB5
 go_wp2_with fail
 go_ret2
 exact ⟨xb, gb, rfl, HFIN.out, HGR7.out, HB7.out⟩
def runZ : Value := .agg #[.slice none 0 0, .slice none 0 0, .slice none 0 0]
theorem refineZero_any {p : Addr} {s : Lts} (h : s.Right) (hn : s.st = 0) {a : Option Addr} {b off c : Nat} {w : World} (hG : GErr 0 p w) (hS : SlAt encE 3 w a b off s.es) :
    Calls Tryz.prog 98 #[.agg #[.int .i64 s.st, .int .i64 s.lb, .int .i64 s.s0, .slice a s.es.length c]] w fun e w' => e = .returned (.tuple #[runZ, .nilIface]) /\ Below w.heap.size w w' := by
 have hB0 := ((Below.refl w.heap.size w).alloc (Nat.le_refl _) (Obj.cells #[.int .i64 s.st, .int .i64 s.lb, .int .i64 s.s0, .slice a s.es.length c] 24)).alloc (by simp) (Obj.cells #[.slice none 0 0, .slice none 0 0, .slice none 0 0] 141)
 have hrb := heap_alloc_at (w.alloc (Obj.cells #[.int .i64 s.st, .int .i64 s.lb, .int .i64 s.s0, .slice a s.es.length c] 24)) (Obj.cells #[.slice none 0 0, .slice none 0 0, .slice none 0 0] 141) (w.heap.size + 1) (by simp)
 have hN := newPlayZero_any (c := c) h hn (hG.below hB0) (hS.below hB0 (Nat.le_refl _))
 have HN := hid hN; have HB0 := hid hB0; have HRB := hid hrb
 have HNM : Hid (s.norm.st = 0) := hid hn
 clear hN hB0 hS hG h hrb hn
 go_enter Tryz.func98, Tryz.ntmps98
 go_wp2_with fail
 refine HN.out.mono ?_
 rintro e w1 ⟨xb, gb, rfl, hpz, hgr, hB1⟩
 have hb1 := (hB1.block (w.heap.size + 1) (by simp)).trans HRB.out
 obtain ⟨pb, hb, qb, hx, _⟩ := hpz
 have x0 : w1.cell? ⟨xb, 0, none⟩ = some (.pointer (some ⟨gb, 0, none⟩)) := by simp [World.cell?, hx]
 have xl := (Array.getElem?_eq_some_iff.1 hx).1
 have hst := getStates_any hgr
 rw [HNM.out] at hst
 have HST := hid hst; have HB1 := hid (HB0.out.trans (hB1.mono (by simp; omega))); have HRB1 := hid hb1
 clear hb1 hx hst hB1 hgr HN HB0 HRB
 go_wp2_with fail
 refine HST.out.mono ?_
 rintro e w2 ⟨rfl, hB2⟩
 have hb2 := (hB2.block (w.heap.size + 1) (Array.getElem?_eq_some_iff.1 HRB1.out).1).trans HRB1.out
 obtain ⟨rb, hrb⟩ : ∃ rb, rb = w.heap.size + 1 := ⟨_, rfl⟩
 have hrbg : w.heap.size <= rb := by omega
 rw [<- hrb] at hb2 ⊢
 have r0 : w2.cell? ⟨rb, 0, none⟩ = some (.slice none 0 0) := by simp [World.cell?, hb2]
 have r1 : w2.cell? ⟨rb, 1, none⟩ = some (.slice none 0 0) := by simp [World.cell?, hb2]
 have r2 : w2.cell? ⟨rb, 2, none⟩ = some (.slice none 0 0) := by simp [World.cell?, hb2]
 have rf0 : w2.frozen? ⟨rb, 0, none⟩ = false := by simp [World.frozen?, hb2]
 have rf1 : w2.frozen? ⟨rb, 1, none⟩ = false := by simp [World.frozen?, hb2]
 have rf2 : w2.frozen? ⟨rb, 2, none⟩ = false := by simp [World.frozen?, hb2]
 have rl := (Array.getElem?_eq_some_iff.1 hb2).1
 have hz3 := hid ((((HB1.out.trans (hB2.mono HB1.out.size)).setCell (p := ⟨rb, 0, none⟩) hrbg (.slice none 0 0)).setCell (p := ⟨rb, 1, none⟩) hrbg (.slice none 0 0)).setCell (p := ⟨rb, 2, none⟩) hrbg (.slice none 0 0))
 clear hb2 hrb hB2 HST HRB1 x0 xl
 go_wp2_with fail
 refine bodyPost_ret (v := .tuple #[runZ, .nilIface]) (by simp [results, Tryz.results98, go_sem, r0, r1, r2, runZ]) rfl ?_
 exact ⟨rfl, hz3.out⟩
end Go.Proofs.YtgikimbafakmcaaGreatDoor
namespace Go.Proofs.YtgikimbafakmcaaGreatDoor
open Go.RowKit Pl
theorem big_norm {s : Lts} {n : Nat} {C : Nat -> Int} (h : Big s.norm n C) : Big s n C := h.steps (fun _ _ _ _ _ => mem_nf stoE _ s.es)
def StrClasses (s : Lts) (n : Nat) (w : World) (e : Ending) (w' : World) : Prop :=
  ∃ (inn : Nat -> Nat) (a : Option Addr) (c : Nat), Big s n (fun p => (inn p : Int)) /\ e = .returned (.tuple #[.slice a n c, .nilIface]) /\ w'.ownsRow w.heap.size 3 1 (.slice a n c) n ((canon (flN n inn)).flatMap encI) /\ Below w.heap.size w w'
theorem strClasses_any {p : Addr} {s : Lts} {n : Nat} (h : s.Right) (hn : s.st = (n : Int)) {a : Option Addr} {b off c : Nat} {w : World} (hG : GErr 0 p w) (hS : SlAt encE 3 w a b off s.es) :
    Calls Tryz.prog 69 #[.agg #[.int .i64 s.st, .int .i64 s.lb, .int .i64 s.s0, .slice a s.es.length c]] w (StrClasses s n w) := by
 have hB0 := (Below.refl w.heap.size w).alloc (Nat.le_refl _) (Obj.cells #[.int .i64 s.st, .int .i64 s.lb, .int .i64 s.s0, .slice a s.es.length c] 24)
 have HB0 := Lib.hid hB0
 rcases Nat.eq_zero_or_pos n with rfl | hn0
 · have HN := Lib.hid (refineZero_any (c := c) h hn (hG.below hB0) (hS.below hB0 (Nat.le_refl _)))
   clear hB0 hS hG h hn
   go_enter Tryz.func69, Tryz.ntmps69
   go_wp2_with fail
   refine HN.out.mono ?_
   unfold runZ
   rintro e w1 ⟨rfl, hB1⟩
   have HB1 := Lib.hid ((HB0.out.trans (hB1.mono (by simp))).alloc (by have := hB1.size; simp at this; omega) (.cells #[.slice none 0 0, .slice none 0 0, .slice none 0 0] 141))
   clear hB1 HN HB0
   go_wp2_with fail
   go_ret2
   exact ⟨fun _ => 0, none, 0, ⟨fun p q hp => by omega, fun R _ p q hp => by omega⟩, rfl, World.ownsRow_nil _ _ _ _, HB1.out⟩
 · have HN := Lib.hid (refineYes_any (c := c) h hn hn0 (hG.below hB0) (hS.below hB0 (Nat.le_refl _)))
   clear hB0 hS hG h hn
   go_enter Tryz.func69, Tryz.ntmps69
   go_wp2_with fail
   refine HN.out.mono ?_
   unfold RefPost
   rintro e w1 ⟨inn, ga, cg, cc, ta, tn, tc, ba, bb, bc, hbig, _, rfl, hown, _, hB1⟩
   have hz : w.heap.size <= w1.heap.size := by have := hB1.size; simp at this; omega
   have HB1 := Lib.hid ((HB0.out.trans (hB1.mono (by simp))).alloc hz (.cells #[.slice (some ⟨cg, 0, none⟩) n cc, .slice ta tn tc, .slice ba n bc] 141))
   have HO := Lib.hid ((own_mono hown (show w.heap.size <= _ by simp)).alloc (.cells #[.slice (some ⟨cg, 0, none⟩) n cc, .slice ta tn tc, .slice ba n bc] 141))
   have HBIG := Lib.hid (big_norm hbig)
   clear hB1 hown hbig HN HB0
   go_wp2_with fail
   go_ret2
   exact ⟨inn, _, cc, HBIG.out, rfl, HO.out, HB1.out⟩
end Go.Proofs.YtgikimbafakmcaaGreatDoor
namespace Go.Proofs.YtgikimbafakmcaaGreatDoor
open Go.RowKit Pl
theorem sys9 {w : World} {B : Nat} {x y z : Int} {v : Value} (h : w.heap[B]? = some (.cells #[.int .i64 x, .int .i64 y, .int .i64 z, v] 24 (0, 0))) :
    w.cell? ⟨B, 0, none⟩ = some (.int .i64 x) /\ w.cell? ⟨B, 1, none⟩ = some (.int .i64 y) /\ w.cell? ⟨B, 2, none⟩ = some (.int .i64 z) /\ w.cell? ⟨B, 3, none⟩ = some v /\ B < w.heap.size := by
 refine ⟨?_, ?_, ?_, ?_, (Array.getElem?_eq_some_iff.1 h).1⟩ <;> simp [World.cell?, h]
theorem canon9_wf {l : List Int} (h : l.length <= 1000000) : ∀ x ∈ canon l, (Lit.int .i64 x).wf = true := by
 intro x hx
 unfold canon at hx
 obtain ⟨y, hy, rfl⟩ := List.mem_map.1 hx
 have h1 := dist_len l
 have h2 : (dist l).idxOf y <= (dist l).length := List.idxOf_le_length
 exact WalkArith.wf_i64 (by omega)
def cl9 (n : Nat) (inn : Nat -> Nat) : Nat -> Int := clf n (fun p => (inn p : Int))
theorem canon9 (n : Nat) (inn : Nat -> Nat) : canon (flN n inn) = fl n (cl9 n inn) := by
 unfold flN cl9
 rw [canon_fl]
theorem cl9_big {s : Lts} {n : Nat} {inn : Nat -> Nat} (h : Big s n (fun p => (inn p : Int))) : Big s n (cl9 n inn) := h.clf
end Go.Proofs.YtgikimbafakmcaaGreatDoor

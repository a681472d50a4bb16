/-
  Lemmas.
-/
import Derived.Test.YtjchdegapadepaaGreatDoorGBrG
import Derived.Test.YtjchdegapadepaaGreatDoorGCanon
import Derived.Test.YtjchdegapadepaaGreatDoorGTauK
import Derived.Test.YtjchdegapadepaaGreatDoorGTauJ
import Derived.Test.YtjchdegapadepaaGreatDoorGNew
import Derived.Test.YtjchdegapadepaaGreatDoorGStrG
import Derived.Test.YtjchdegapadepaaGreatDoorGAs
set_option maxHeartbeats 16000000
set_option maxRecDepth 100000
namespace Go.Proofs.YtjchdegapadepaaGreatDoor
open Go.RowKit Pl
open Lib (hid)
theorem k1z {cl : Int} (hcl : okIB cl) : ∀ L : List S, (∀ x ∈ L, okIB x.1 /\ okIB x.2) -> (textB cl L).length <= 30 + 50 * L.length
  | [], _ => by
    have h1 := Lib.itoa_length_le cl hcl.1 hcl.2
    unfold textB
    simp only [List.flatMap_nil, List.append_nil, List.length_nil]
    omega
  | x :: L, h => by
    have ih := k1z hcl L (fun y hy => h y (List.mem_cons_of_mem _ hy))
    have h0 := h x (by simp)
    have h1 := Lib.itoa_length_le x.1 h0.1.1 h0.1.2
    have h2 := Lib.itoa_length_le x.2 h0.2.1 h0.2.2
    unfold textB at ih ⊢
    rw [List.length_append] at ih ⊢
    have e : (Pl.stepT x).length = (Lib.itoa x.1).length + (Lib.itoa x.2).length + 2 := by unfold Pl.stepT; simp; omega
    rw [List.flatMap_cons, List.length_append, List.length_cons, e]
    omega
theorem part_any {w : World} {gb : Nat} {t : Lts} {m : Nat} (hg : GraphAt w gb t) (hr : t.Right) (hn : t.st = (m : Int)) (hs : Srt ltE t.es) {D : List Nat} (hD : OrdL t m D) (hDl : D.length = m) (hall : ∀ k, k < m -> k ∈ D) (he : t.es.length <= 900)
    {oa : Option Addr} {ob oo oc : Nat} (hO : SlAt encI 1 w oa ob oo (D.map Int.ofNat)) (htab : Lib.TabIs Tryz.prog w "internal/strconv.uint64pow10" .u64 Lib.pow10Tab) :
    Calls Tryz.prog 36 #[.pointer (some ⟨gb, 0, none⟩), .slice oa m oc] w fun e w' => ∃ (cb : Nat) (C : Nat -> Int), e = .returned (.slice (some ⟨cb, 0, none⟩) m m) /\ SlAt encI 1 w' (some ⟨cb, 0, none⟩) cb 0 (fl m C) /\ Rounds t m C /\ Still t m C /\ (∀ p, p < m -> 0 <= C p /\ C p <= (m : Int)) /\ Below w.heap.size w w' := by
 have hm1 : m <= 1000 := by have := hr.st0; omega
 have hlb : t.lb <= 1000 := by have := hr.st0; omega
 have hmk := run_make_row' (P := Tryz.prog) 27 3 (.int .i64 0) 8 Tryz.underlying27 (by kernel_rfl) rfl .i64 .i64 m (by omega) (by omega)
 have hmm := @run_makeMap Tryz.prog
 have hgs := j0m hg
 rw [hn] at hgs
 have HG := hid hg; have HR := hid hr; have HN := hid hn; have HSR := hid hs; have HD := hid hD; have HDL := hid hDl; have HALL := hid hall; have HE := hid he; have HO := hid hO; have HGS := hid hgs; have HT := hid (Lib.tabBelow_of_tabIs htab)
 clear hg hr hn hs hD hDl hall he hO hgs htab
 go_enter Tryz.func36, Tryz.ntmps36
 go_wp2_with fail
 refine HGS.out.mono ?_
 rintro e w1 ⟨rfl, hB1⟩
 have hrw := World.rowIs_made w1 (.int .i64 0) m 3
 have hb1 := (hB1.alloc hB1.size (.cells (madeCells #[.int .i64 0] m) 3))
 have HRW := hid hrw; have HB1 := hid hb1
 have hTB : w.heap.size <= w1.heap.size := hB1.size
 clear hrw hb1 hB1 HGS
 go_wp2_with fail
 go_loopg [5, 6, 7, 8, 9, 10, 11, 12] (m + 1) (fun g v5 _ _ _ _ _ _ _ wr => ∃ (cb : Nat) (C : Nat -> Int), m + 1 <= g + (dist (fl m C)).length /\ v5 = .slice (some ⟨cb, 0, none⟩) m m /\ wr.rowIs cb 3 m (fun i => .int .i64 (C i)) /\ Rounds t m C /\ canon (fl m C) = fl m C /\ (∀ p, p < m -> 0 <= C p /\ C p <= (m : Int)) /\ Below w.heap.size w wr)
 case atStart => exact ⟨w1.heap.size, fun _ => 0, by omega, rfl, HRW.out, .zero, x0f m, fun p hp => by simp only; omega, HB1.out⟩
 case round => (
 obtain ⟨cb, C, hgk, rfl, hrow, hro, hca, hCr, hB⟩ := hrel
 obtain ⟨W, hW⟩ : ∃ W, W = wr := ⟨_, rfl⟩
 subst hW
 have HRO := hid hro; have HCA := hid hca; have HCR := hid hCr; have HB := hid hB; have HROW := hid hrow
 have hws := hB.size
 have hcl := hrow.lt
 clear hro hca hCr hB hrow HRW HB1
 have hq0 := Below.refl W.heap.size W
 have hq1 := hq0.alloc (Nat.le_refl _) (.map #[] 0)
 have hq2 := hq1.alloc (by simp) (.cells (madeCells #[.int .i64 0] m) 3)
 have hom := (OMap.made (enck := encTx) (ok := okTx) (encv := encNv) W).of_block (((Below.refl _ _).alloc (Nat.le_refl _) (.cells (madeCells #[.int .i64 0] m) 3)).block W.heap.size (by simp))
 have hnx := World.rowIs_made (W.alloc (.map #[] 0)) (.int .i64 0) m 3
 have HSG := hid (sig_any (cc := m) (oc := oc) (HG.out.below (HB.out.trans (hq2.mono hws))) HR.out HN.out HSR.out HD.out HDL.out HALL.out HE.out (C := C) ((q0u HROW.out).below hq2 (Nat.le_refl _)) (HO.out.below (HB.out.trans (hq2.mono hws)) (Nat.le_refl _)))
 have HQ2 := hid hq2; have HOM := hid hom; have HNX := hid hnx
 rw [show (W.alloc (.map #[] 0)).heap.size = W.heap.size + 1 by simp] at HNX
 clear hq0 hq1 hq2 hom hnx
 go_wp2_with fail
 refine HSG.out.mono ?_
 rintro e w2 ⟨tb, base, F, rfl, hrows, htb, hbase, hB2, hF⟩
 have HRWS := hid hrows
 have HFS := hid hF
 have hsz2 : (((W.alloc (.map #[] 0)).alloc (.cells (madeCells #[.int .i64 0] m) 3))).heap.size = W.heap.size + 2 := by simp
 have hw2 := hB2.size
 rw [hsz2] at htb hw2
 have hbw2 := HQ2.out.trans (hB2.mono (by rw [hsz2]; omega))
 have hom2 := HOM.out.of_block (hB2.block W.heap.size (by rw [hsz2]; omega))
 have hnx2 := HNX.out.of_block (hB2.block (W.heap.size + 1) (by rw [hsz2]; omega))
 obtain ⟨G, hG⟩ : ∃ G, G = cdG m C F := ⟨_, rfl⟩
 obtain ⟨T, hT⟩ : ∃ T, T = txtL m C F := ⟨_, rfl⟩
 obtain ⟨L, hL⟩ : ∃ L, L = fl m G := ⟨_, rfl⟩
 have HLL : Hid (L.length = m) := hid (by rw [hL, j0g])
 have HGT : Hid (∀ p, p < m -> textB (C p) (F p) ∈ T /\ codeT T (textB (C p) (F p)) = G p) := hid (fun p hp => by rw [hT, hG]; exact ⟨j1f hp, rfl⟩)
 have HLG : Hid (∀ p, p < m -> L[p]? = some (G p)) := hid (fun p hp => by rw [hL]; exact j0h G hp)
 have HNB : Hid (NextB t m C (clf m G)) := hid (p2v (fun p hp => hF p hp) (fun p q hp hq => by rw [hG]; exact cdG_eq hp hq))
 have HLE := hid hL
 have HOM2 : Hid (OMap w2 W.heap.size encTx okTx encNv (numT T (dist (L.take 0))) (dist (L.take 0)).length) := hid (by
   have h := hom2.congr (g := numT T []) (fun z => (numT_nil T z).symm)
   simpa [dist] using h)
 have HNX2 : Hid (w2.rowIs (W.heap.size + 1) 3 m (rowAtK L 0)) := hid (hnx2.congr (fun i _ => by unfold rowAtK; simp))
 have HBW2 := hid hbw2
 obtain ⟨ab, hab⟩ : ∃ ab, ab = W.heap.size := ⟨_, rfl⟩
 obtain ⟨nb, hnb⟩ : ∃ nb, nb = W.heap.size + 1 := ⟨_, rfl⟩
 have hablo : W.heap.size <= ab := by omega
 have hnblo : W.heap.size <= nb := by omega
 have hant : ab < tb := by omega
 have hnnt : nb < tb := by omega
 have hanb : ab ≠ nb := by omega
 rw [<- hab] at HOM2; rw [<- hnb] at HNX2
 have htbb := hrows.lt
 have HCW : Hid (SlAt encI 1 W (some ⟨cb, 0, none⟩) cb 0 (fl m C)) := hid (q0u HROW.out)
 have HTW := hid (HT.out.on HB.out)
 have HCO : Hid (∀ p, p < m -> okIB (C p)) := hid (fun p hp => by have := HCR.out p hp; unfold okIB; omega)
 have HFO : Hid (∀ p, p < m -> (F p).length <= 900 /\ ∀ x ∈ F p, okIB x.1 /\ okIB x.2) := hid (fun p hp => by (
 refine ⟨Nat.le_trans (hF p hp).len HE.out, fun x hx => ?_⟩
 obtain ⟨h1, h2, q, hq, h3⟩ := (hF p hp).rng HR.out HN.out hx
 have h4 := HCO.out q hq
 rw [<- h3] at h4
 exact ⟨by unfold okIB; omega, h4⟩))
 rw [hsz2] at *
 have HABE := hid hab; have HNBE := hid hnb
 clear hab hnb hrows hF hsz2 hw2 hbw2 hom2 hnx2 hG hT hL hB2 HOM HNX HQ2 HSG
 go_wp2_with fail
 rw [<- HNBE.out, <- HABE.out]
 clear HNBE HABE
 go_loopw [8, 9, 10, 11, 12, 25] (fun _ _ _ _ _ v25 wx => ∃ i : Nat, v25 = .int .i64 i /\ i <= m /\ OMap wx ab encTx okTx encNv (numT T (dist (L.take i))) (dist (L.take i)).length /\ wx.rowIs nb 3 m (rowAtK L i) /\ OwnRows encS 2 80 60 wx base tb m F /\ Below W.heap.size W wx) (fun _ _ _ _ _ v25 _ => m - (intOf v25).toNat)
 case atStart => exact ⟨0, rfl, Nat.zero_le _, HOM2.out, HNX2.out, HRWS.out, HBW2.out⟩
 case round => (
 obtain ⟨i, rfl, hi, hom, hnx, hrw, hBx⟩ := hrel
 have HOM := hid hom; have HNX := hid hnx; have HRX := hid hrw; have HBX := hid hBx
 have hwx := hBx.size
 have hml := hom.lt
 have hnl := hnx.lt
 have htl := hrw.size
 clear hom hnx hrw hBx HOM2 HNX2 HRWS HBW2
 by_cases him : i < m
 · (
 obtain ⟨v, hv, hvf, hvo⟩ := HRX.out.at him
 obtain ⟨va, vc, vb, rfl, _, _, hsl, _⟩ := j0f k1c hvo
 have hcs := (HCW.out.below HBX.out (Nat.le_refl _)).ci (j0h C him)
 simp only [Nat.zero_add] at hcs
 have hcb : cb < wr.heap.size := by omega
 have hfo := HFO.out i him
 have htx := text_any (c := vc) (HCO.out i him) hsl rfl (by omega) hfo.2 (HTW.out _ (HBX.out.mono hws))
 have htl2 := k1z (HCO.out i him) (F i) hfo.2
 have hgt := HGT.out i him
 have hlg := HLG.out i him
 obtain ⟨y, hy⟩ : ∃ y, y = textB (C i) (F i) := ⟨_, rfl⟩
 obtain ⟨x, hx⟩ : ∃ x, x = G i := ⟨_, rfl⟩
 rw [<- hy] at htx hgt htl2
 rw [<- hx] at hgt hlg
 have HOKT : Hid (okTx y) := hid (by unfold okTx; omega)
 have HTX := hid htx; have HLG2 := hid hlg; have HYT := hid hgt.1; have HYC := hid hgt.2
 obtain ⟨fi, hfi⟩ : ∃ fi, fi = (F i).length := ⟨_, rfl⟩
 rw [<- hfi] at hv HTX
 obtain ⟨ci, hci⟩ : ∃ ci, ci = C i := ⟨_, rfl⟩
 rw [<- hci] at hcs HTX
 have hnf := HNX.out.frozen i
 have hnc := HNX.out.cell him
 have hiI : (i : Int) < (m : Int) := by omega
 clear hvf hvo hsl hfo htx htl2 hgt hlg hy hx hfi hci
 go_wp2_with fail
 refine HTX.out.mono ?_
 rintro e w5 ⟨rfl, hB5⟩
 have HOM5 := hid (HOM.out.of_block (hB5.block _ hml)); have HNX5 := hid (HNX.out.of_block (hB5.block _ hnl)); have HRX5 := hid (HRX.out.call hB5); have HBX5 := hid (HBX.out.trans (hB5.mono hwx))
 have hw5 := HBX5.out.size
 have hnl5 := HNX5.out.lt
 have hnf := HNX5.out.frozen i
 have hnc := HNX5.out.cell him
 clear hB5 HOM HNX HRX HBX HTX hv hcs
 by_cases hin : x ∈ dist (L.take i)
 · (
 have HNF : Hid (numT T (dist (L.take i)) y = some ((dist (L.take i)).idxOf x : Int)) := hid (by unfold numT; rw [if_pos ⟨HYT.out, by rw [HYC.out]; exact hin⟩, HYC.out])
 have hd : dist (L.take (i + 1)) = dist (L.take i) := by rw [take_snoc HLG2.out, j0i]; unfold addN; rw [if_pos hin]
 have hrw := (HNX5.out.set i (.int .i64 ((dist (L.take (i + 1))).idxOf x : Int))).congr (fun j _ => j0z HLG2.out j)
 rw [hd] at hrw
 have HD2 := hid hd; have HRW2 := hid hrw
 obtain ⟨z, hz⟩ : ∃ z : Nat, z = (dist (L.take i)).idxOf x := ⟨_, rfl⟩
 rw [<- hz] at HNF HRW2
 clear hin hd hrw hz
 go_wp2_with (at_lookup; refine j0q rfl _ _ 118 rfl q2w Tryz.underlying118 (x0w _) rfl HOM5.out y HOKT.out rfl ?_; rw [HNF.out]; simp only [Option.map_some, Option.getD_some, Option.isSome_some, encNv])
 go_roundw
 case rel => exact ⟨i + 1, by go_num, by omega, by rw [HD2.out]; exact HOM5.out.of_block (Below.heap_setCell _ _ _ _ hanb), HRW2.out, HRX5.out.setOther (by show nb ≠ tb; omega) (by show nb < base; omega) _, HBX5.out.setCell hnblo _⟩
 case measure => simp [intOf]; omega)
 · (
 have HNF : Hid (numT T (dist (L.take i)) y = none) := hid (by unfold numT; rw [if_neg]; rintro ⟨_, h⟩; rw [HYC.out] at h; exact hin h)
 have hd : dist (L.take (i + 1)) = dist (L.take i) ++ [x] := by rw [take_snoc HLG2.out, j0i]; unfold addN; rw [if_neg hin]
 have hix : (dist (L.take (i + 1))).idxOf x = (dist (L.take i)).length := by rw [hd, List.idxOf_append]; simp [hin]
 have HIX := hid hix
 have HPU : Hid (∀ z, (if z = y then some ((dist (L.take i)).length : Int) else numT T (dist (L.take i)) z) = numT T (dist (L.take (i + 1))) z) := hid (fun z => by
   rw [hd, <- HYC.out]
   exact p2r HYT.out (by rw [HYC.out]; exact hin) z)
 have HDL2 : Hid ((dist (L.take (i + 1))).length = (dist (L.take i)).length + 1) := hid (by rw [hd]; simp)
 obtain ⟨dn, hdn⟩ : ∃ dn, dn = (dist (L.take i)).length := ⟨_, rfl⟩
 have hom5 := HOM5.out
 rw [<- hdn] at hom5 HIX HPU HDL2
 have HOM6 := hid hom5
 have hdl : dn <= 1000 := by rw [hdn]; have := k0h (L.take i); rw [List.length_take] at this; omega
 have hln := HOM6.out.len Tryz.underlying118 3
 clear hin hd hix hdn hom5 HOM5
 go_wp2_with (first
   | (at_lookup; refine j0q rfl _ _ 118 rfl q2w Tryz.underlying118 (x0w _) rfl HOM6.out y HOKT.out rfl ?_; rw [HNF.out]; simp only [Option.map_none, Option.getD_none, Option.isSome_none])
   | (at_mapUpdate; refine z0d rfl _ _ _ 118 rfl q2w Tryz.underlying118 rfl HOM6.out y HOKT.out rfl (dn : Int) rfl ?_; rw [HNF.out]; intro w6 hom6 hg6 hf6 hs6; have hnf6 := (hf6 ⟨nb, i, none⟩).trans hnf; have hnx6 := HNX5.out.of_block (hg6.block nb hnl5 (fun e => hanb (Option.some.inj e).symm)); have hnc6 := hnx6.cell him; have hnl6 := hnx6.lt; have hrw6 := HRX5.out.kept (fun b hb hbl => hg6.block b hbl (fun e => by have := Option.some.inj e; omega)); have hbx6 := HBX5.out.grown hg6 hw5 (fun k hk => by have := Option.some.inj hk; omega); have HX6 := hid hnx6; have HR6 := hid hrw6; have HB6 := hid hbx6; have HO6 := hid hom6; clear hnx6 hrw6 hbx6 hom6 hg6 hf6 hs6 hnf hnc HNX5 HRX5 HBX5))
 go_roundw
 case rel => exact ⟨i + 1, by go_num, by omega, by rw [HDL2.out]; exact (HO6.out.congr HPU.out).of_block (Below.heap_setCell _ _ _ _ hanb), (HX6.out.set i (.int .i64 (dn : Int))).congr (fun j _ => by have h := j0z HLG2.out j; rw [HIX.out] at h; exact h), HR6.out.setOther (by show nb ≠ tb; omega) (by show nb < base; omega) _, HB6.out.setCell hnblo _⟩
 case measure => simp [intOf]; omega))
 · (
 obtain rfl : m = i := by omega
 have hnx2 : wr.rowIs nb 3 m (fun j => .int .i64 (clf m G j)) := HNX.out.congr (fun j hj => by rw [HLE.out]; exact x0x hj)
 have hsl := q0u hnx2
 have hcs := HCW.out.below HBX.out (Nat.le_refl _)
 have heq := q0g (c1 := m) (c2 := m) hsl hcs (by rw [j0g]; omega) (by rw [j0g]; omega)
 rw [j0g, j0g] at heq
 have HEQ := hid heq; have HNX2 := hid hnx2; have HCS := hid hcs
 have hbz := HB.out.trans (HBX.out.mono hws)
 have HBZ := hid hbz
 have hcn : canon (fl m (clf m G)) = fl m (clf m G) := by rw [<- j0u, k0t]
 have HCN := hid hcn
 clear hnx2 hsl hcs heq hbz hcn HOM HNX HRX
 by_cases he : fl m (clf m G) = fl m C
 · (
 have hde : decide (fl m (clf m G) = fl m C) = true := by simp [he]
 rw [hde] at HEQ
 have HEE := hid he
 clear hde he
 go_wp2_with fail
 refine HEQ.out.mono ?_
 rintro e w7 ⟨rfl, q7, rfl⟩
 go_wp2_with fail
 go_ret
 exact ⟨cb, C, rfl, HCS.out.below (k0c (Below.refl wr.heap.size wr)) (Nat.le_refl _), HRO.out, v1m HNB.out HEE.out, HCR.out, k0c HBZ.out⟩)
 · (
 have hde : decide (fl m (clf m G) = fl m C) = false := by simp [he]
 rw [hde] at HEQ
 have hmore := q1e HNB.out HCA.out HCN.out he
 have hle : (dist (fl m (clf m G))).length <= m := by have := k0h (fl m (clf m G)); rw [j0g] at this; exact this
 clear hde he
 go_wp2_with fail
 refine HEQ.out.mono ?_
 rintro e w7 ⟨rfl, q7, rfl⟩
 go_wp2_with fail
 go_roundg (gk - 1)
 case rel => exact ⟨nb, clf m G, by omega, rfl, HNX2.out, .step HRO.out HNB.out, HCN.out, fun p hp => by have h1 := p0q (f := G) hp; have h2 := k0h (fl m G); rw [j0g] at h2; omega, k0c HBZ.out⟩
 case measure => omega))))
end Go.Proofs.YtjchdegapadepaaGreatDoor
namespace Go.Proofs.YtjchdegapadepaaGreatDoor
namespace Pl
def BrRes (s : Lts) (n : Nat) (R : List Int) : Prop :=
  ∃ f C, Cyc s n f /\ Rounds (col s (fl n (clf n f))) (dist (fl n f)).length C /\ Still (col s (fl n (clf n f))) (dist (fl n f)).length C /\ R = fl n (clf n (fun p => C (asF n f p)))
section
variable {s : Lts} {n : Nat} {R : List Int}
theorem asF_col {f g : Nat -> Int} (e : fl n (clf n f) = fl n (clf n g)) {p : Nat} (hp : p < n) : asF n f p = asF n g p := by
 unfold asF; rw [u0v e hp]
theorem BrRes.at (h : BrRes s n R) {g : Nat -> Int} (hg : Cyc s n g) : ∃ C, Rounds (col s (fl n (clf n g))) (dist (fl n g)).length C /\ Still (col s (fl n (clf n g))) (dist (fl n g)).length C /\ R = fl n (clf n (fun p => C (asF n g p))) := by
 obtain ⟨f, C, hf, h1, h2, h3⟩ := h
 have e := hf.unique hg
 rw [j0u, j0u] at e
 have e2 : (dist (fl n f)).length = (dist (fl n g)).length := by rw [<- j0y (f := f), e, j0y]
 rw [e, e2] at h1 h2
 refine ⟨C, h1, h2, ?_⟩
 rw [h3, <- j0u, <- j0u]
 congr 1
 unfold fl
 apply List.map_congr_left
 intro p hp
 rw [asF_col e (List.mem_range.1 hp)]
theorem BrRes.big (hr : s.Right) (hn : s.st = (n : Int)) (h : BrRes s n R) : ∃ C, BrBig s n C /\ R = fl n C /\ canon R = R /\ ∀ p, p < n -> 0 <= C p /\ C p < (n : Int) := by
 obtain ⟨f, C, hf, h1, h2, h3⟩ := h
 refine ⟨_, (h1.big hr hn hf h2).clf hr hn, h3, ?_, fun p hp => ?_⟩
 · rw [h3, <- j0u, k0t]
 · have a := p0q (f := fun p => C (asF n f p)) hp
   have b := k0h (fl n (fun p => C (asF n f p)))
   rw [j0g] at b
   omega
theorem BrRes.len (h : BrRes s n R) : R.length = n := by obtain ⟨f, C, _, _, _, rfl⟩ := h; exact j0g _ _
end
end Pl
end Go.Proofs.YtjchdegapadepaaGreatDoor
namespace Go.Proofs.YtjchdegapadepaaGreatDoor
open Go.RowKit Pl
theorem j1u {p : Addr} {s : Lts} {n m : Nat} {f : Nat -> Int} (hr : s.Right) (hn : s.st = (n : Int)) (hc : Cyc s n f) {t : Lts} (ht : t = col s (fl n (clf n f))) (hm : t.st = (m : Int)) {a : Option Addr} {b off c : Nat} {w : World}
    (hG : GErr 10 p w) (hS : SlAt encE 3 w a b off t.es) :
    Calls Tryz.prog 34 #[.agg #[.int .i64 m, .int .i64 t.lb, .int .i64 t.s0, .slice a t.es.length c]] w fun e w' => ∃ (D : List Nat) (v : Value), e = .returned (.tuple #[v, .nilIface]) /\ OrdL t m D /\ D.length = m /\ (∀ k, k < m -> k ∈ D) /\
      w'.ownsRow w.heap.size 3 1 v (D.map Int.ofNat).length ((D.map Int.ofNat).flatMap encI) /\ Below w.heap.size w w' := by
 have htr : t.Right := by rw [ht]; exact q0n hr hn
 have h := q1b (c := c) htr hm hG hS
 rw [hm] at h
 refine h.mono ?_
 rintro e w' ⟨g, D, v, hg, hD, hall, rfl, h1, hB⟩
 have hcc : col t (fl m (clf m g)) = t := by
   rw [ht] at hg hm ⊢
   exact self_col hr hn hc hm hg
 have hcl : fl m (clf m g) = (List.range m).map Int.ofNat := by
   rw [ht] at hg
   exact z1d hr hn hc hg
 rw [hcc, hcl] at hD
 rw [hcl] at hall h1
 have hml : (dist ((List.range m).map Int.ofNat)).length = m := by rw [p0u]; simp
 rw [hml] at hD hall
 have hl := ord_len hD hall
 rw [q1o D hD.rng] at h1
 exact ⟨D, v, rfl, hD, hl, hall, by rw [List.length_map, hl]; exact h1, hB⟩
end Go.Proofs.YtjchdegapadepaaGreatDoor
namespace Go.Proofs.YtjchdegapadepaaGreatDoor
open Go.RowKit Pl
open Lib (hid)
def brName : ByteArray := ⟨#[98, 114, 97, 110, 99, 104, 105, 110, 103]⟩
def BrPost (s : Lts) (n : Nat) (w : World) (e : Ending) (w' : World) : Prop :=
  ∃ (R : List Int) (a : Option Addr) (b c : Nat), BrRes s n R /\ e = .returned (.tuple #[.slice a n c, .nilIface]) /\ w'.ownsRow w.heap.size 3 1 (.slice a n c) n (R.flatMap encI) /\ SlAt encI 1 w' a b 0 R /\ Below w.heap.size w w'
theorem sysB {w : World} {B : Nat} {x y z : Int} {v : Value} (h : w.heap[B]? = some (.cells #[.int .i64 x, .int .i64 y, .int .i64 z, v] 24 (0, 0))) :
    w.cell? ⟨B, 0, none⟩ = some (.int .i64 x) /\ w.cell? ⟨B, 1, none⟩ = some (.int .i64 y) /\ w.cell? ⟨B, 2, none⟩ = some (.int .i64 z) /\ w.cell? ⟨B, 3, none⟩ = some v /\ B < w.heap.size := by
 refine ⟨?_, ?_, ?_, ?_, (Array.getElem?_eq_some_iff.1 h).1⟩ <;> simp [World.cell?, h]
theorem x0s {p : Addr} {s : Lts} {n : Nat} (hr : s.Right) (hn : s.st = (n : Int)) (hel : s.es.length <= 900) {a : Option Addr} {b off c : Nat} {w : World} (hG : GErr 10 p w) (htab : Lib.TabIs Tryz.prog w "internal/strconv.uint64pow10" .u64 Lib.pow10Tab) (hS : SlAt encE 3 w a b off s.es) :
    Calls Tryz.prog 18 #[.agg #[.int .i64 s.st, .int .i64 s.lb, .int .i64 s.s0, .slice a s.es.length c]] w (BrPost s n w) := by
 have hst := hr.st0
 have hn1 : n <= 1000 := by omega
 have hB0 := (Below.refl w.heap.size w).alloc (Nat.le_refl _) (Obj.cells #[.int .i64 s.st, .int .i64 s.lb, .int .i64 s.s0, .slice a s.es.length c] 24)
 have hbx := heap_alloc_new w (Obj.cells #[.int .i64 s.st, .int .i64 s.lb, .int .i64 s.s0, .slice a s.es.length c] 24)
 have HCK := hid (q0w hr a b off c _ (hG.below hB0) (hS.below hB0 (Nat.le_refl _)))
 have HG := hid hG; have HS := hid hS; have HB0 := hid hB0; have HBX := hid hbx; have HR := hid hr; have HN := hid hn; have HT := hid (Lib.tabBelow_of_tabIs htab); have HEL := hid hel
 rw [hn] at HCK HB0 HBX ⊢
 clear hG hS hB0 hbx hr hn hst htab hel
 go_enter Tryz.func18, Tryz.ntmps18
 go_wp2_with fail
 refine HCK.out.mono ?_
 rintro e w1 ⟨rfl, hB1⟩
 have hb1 := HB0.out.trans (hB1.mono (by simp))
 have hx1 := (hB1.block w.heap.size (by simp)).trans HBX.out
 have hco := q0m (c := c) HR.out HN.out (HG.out.below hb1) (HS.out.below hb1 (Nat.le_refl _))
 rw [HN.out] at hco
 have HCO := hid hco; have HB1 := hid hb1; have HX1 := hid hx1
 obtain ⟨x0, x1, x2, x3, x4⟩ := sysB hx1
 clear hb1 hx1 hco hB1 HB0 HBX HCK
 go_wp2_with fail
 refine HCO.out.mono ?_
 unfold ColPost
 rintro e w2 ⟨f, v, ve, hcyc, rfl, hown, howne, hB2⟩
 obtain ⟨t, ht⟩ : ∃ t, t = col s (fl n (clf n f)) := ⟨_, rfl⟩
 obtain ⟨m, hm⟩ : ∃ m, m = (dist (fl n f)).length := ⟨_, rfl⟩
 have htst : t.st = (m : Int) := by rw [ht, hm]; exact col_st s n f
 rw [<- ht] at howne ⊢
 obtain ⟨ca, cc, cb, rfl, _, _, hcs, _⟩ := j0f (xs := fl n (clf n f)) k0v (by rw [j0g]; exact hown)
 obtain ⟨ea, ec, eb, rfl, _, _, hes, _⟩ := j0f p0n howne
 rw [j0g]
 have hmn : m <= n := by rw [hm]; have := k0h (fl n f); rw [j0g] at this; exact this
 have htr : t.Right := by rw [ht]; exact q0n HR.out HN.out
 have hts : Srt ltE t.es := by rw [ht]; exact y0h s _
 have htl : t.es.length <= 900 := by (
 rw [ht]
 have h1 := z0b (fl n (clf n f)) s.es
 have h2 := j0s (lt := ltE) (colE (fl n (clf n f)) s.es)
 have h3 := HEL.out
 show (nf ltE (colE (fl n (clf n f)) s.es)).length <= 900
 omega)
 have htn : t.norm = t := by (
 have h1 : nf ltE t.es = t.es := q1d p0p hts
 unfold Lts.norm
 rw [h1])
 rw [htst]
 have hb2 := HB1.out.trans (hB2.mono HB1.out.size)
 have hx2 := (hB2.block w.heap.size (Array.getElem?_eq_some_iff.1 HX1.out).1).trans HX1.out
 have hBe := (Below.refl w2.heap.size w2).alloc (Nat.le_refl _) (Obj.cells #[.int .i64 m, .int .i64 t.lb, .int .i64 t.s0, .slice ea t.es.length ec] 24)
 have hb3 := hb2.trans (hBe.mono hb2.size)
 have HX3 := hid ((hBe.block w.heap.size (Array.getElem?_eq_some_iff.1 hx2).1).trans hx2)
 have HU3 := hid (heap_alloc_new w2 (Obj.cells #[.int .i64 m, .int .i64 t.lb, .int .i64 t.s0, .slice ea t.es.length ec] 24))
 have HES := hid (hes.below hBe (Nat.le_refl _)); have HCS := hid (hcs.below hBe (Nat.le_refl _)); have HB3 := hid hb3
 have HOS := hid (j1u (c := ec) HR.out HN.out hcyc ht htst (HG.out.below hb3) HES.out)
 have HTR := hid htr; have HTS := hid hts; have HTL := hid htl; have HTN := hid htn; have HTST := hid htst
 have HRES : Hid (∀ C, Rounds t m C -> Still t m C -> BrRes s n (fl n (clf n (fun p => C (asF n f p))))) := hid (fun C h1 h2 => ⟨f, C, hcyc, by rw [<- ht, <- hm]; exact h1, by rw [<- ht, <- hm]; exact h2, rfl⟩)
 have HAS : Hid (∀ p, p < n -> clf n f p = (asF n f p : Int) /\ asF n f p < m) := hid (fun p hp => ⟨x0u hp, by rw [hm]; exact x1i hp⟩)
 clear hown howne hcs hes hB2 ht hm htst htr hts htl htn hb2 hx2 hBe hb3 hcyc x0 x1 x2 x3 x4 HCO HB1 HX1
 go_upto_region 5 with fail
 obtain ⟨W3, hW3⟩ : ∃ W3, W3 = w2.alloc (Obj.cells #[.int .i64 m, .int .i64 t.lb, .int .i64 t.s0, .slice ea t.es.length ec] 24) := ⟨_, rfl⟩
 obtain ⟨tb, htb⟩ : ∃ tb, tb = w2.heap.size := ⟨_, rfl⟩
 rw [<- hW3] at HX3 HU3 HES HCS HB3 HOS ⊢
 rw [<- htb] at HU3 ⊢
 clear hW3 htb
 obtain ⟨y0, y1, y2, y3, y4⟩ := sysB HU3.out
 go_wp2_with fail
 refine HOS.out.mono ?_
 rintro e w4 ⟨D, v, rfl, hD, hDl, hDa, hown, hB4⟩
 obtain ⟨oa, oc, ob, rfl, _, _, hos, _⟩ := j0f k0v hown
 rw [List.length_map, hDl]
 have hb4 := HB3.out.trans (hB4.mono HB3.out.size)
 have HX4 := hid ((hB4.block w.heap.size (Array.getElem?_eq_some_iff.1 HX3.out).1).trans HX3.out)
 have hu4 := (hB4.block tb (Array.getElem?_eq_some_iff.1 HU3.out).1).trans HU3.out
 have hnw := z0t (c := ec) HTR.out (HG.out.below hb4) (HES.out.below hB4 (Nat.le_refl _))
 rw [HTST.out, HTN.out] at hnw
 have HNW := hid hnw; have HCS4 := hid (HCS.out.below hB4 (Nat.le_refl _)); have HB4 := hid hb4; have HOS4 := hid hos
 have HD := hid hD; have HDL := hid hDl; have HDA := hid hDa
 clear y0 y1 y2 y3 y4
 obtain ⟨y0, y1, y2, y3, y4⟩ := sysB hu4
 clear hown hos hD hDl hDa hB4 hb4 hu4 hnw HX3 HU3 HES HCS HB3 HOS
 go_wp2_with fail
 refine HNW.out.mono ?_
 rintro e w5 ⟨gb, rfl, hgr, hB5, _⟩
 have hb5 := HB4.out.trans (hB5.mono HB4.out.size)
 have HX5 := hid ((hB5.block w.heap.size (Array.getElem?_eq_some_iff.1 HX4.out).1).trans HX4.out)
 have HPA := hid (part_any (oc := oc) hgr HTR.out HTST.out HTS.out HD.out HDL.out HDA.out HTL.out (HOS4.out.below hB5 (Nat.le_refl _)) (HT.out _ hb5))
 have HCS5 := hid (HCS4.out.below hB5 (Nat.le_refl _)); have HB5 := hid hb5
 clear hgr hB5 hb5 HNW HX4 HCS4 HB4 HOS4 y0 y1 y2 y3 y4
 go_wp2_with fail
 refine HPA.out.mono ?_
 rintro e w6 ⟨qb, C, rfl, hqs, hro, hsti, hCr, hB6⟩
 have hb6 := HB5.out.trans (hB6.mono HB5.out.size)
 have hx6 := (hB6.block w.heap.size (Array.getElem?_eq_some_iff.1 HX5.out).1).trans HX5.out
 have HCS6 := hid (HCS5.out.below hB6 (Nat.le_refl _)); have HB6 := hid hb6; have HQS := hid hqs
 have HRS := hid (HRES.out C hro hsti)
 have HCR := hid hCr
 have hmk := run_make_row' (P := Tryz.prog) 27 3 (.int .i64 0) 8 Tryz.underlying27 (by kernel_rfl) rfl .i64 .i64 n (by omega) (by omega)
 obtain ⟨x0, x1, x2, x3, x4⟩ := sysB hx6
 have hrow := (World.rowIs_made w6 (.int .i64 0) n 3).congr (g := fun j => .int .i64 (if j < 0 then C (asF n f j) else 0)) (fun j _ => by simp)
 have HROW := hid hrow
 have hbz := (Below.refl w6.heap.size w6).alloc (Nat.le_refl _) (.cells (madeCells #[.int .i64 0] n) 3)
 have HBZ := hid hbz
 have hw6 := hb6.size
 clear hqs hro hsti hCr hB6 hb6 hx6 hrow hbz HPA HX5 HCS5 HB5
 go_wp2_with fail
 obtain ⟨zb, hzb⟩ : ∃ zb, zb = w6.heap.size := ⟨_, rfl⟩
 rw [<- hzb] at HROW ⊢
 have hzlo : w6.heap.size <= zb := by omega
 clear hzb x0 x1 x2 x3 x4 hmk
 go_loopw [14, 15, 46] (fun _ _ v46 wx => ∃ i : Nat, v46 = .int .i64 i /\ i <= n /\ wx.rowIs zb 3 n (fun j => .int .i64 (if j < i then C (asF n f j) else 0)) /\ Below w6.heap.size w6 wx) (fun _ _ v46 _ => n - (intOf v46).toNat)
 case atStart => exact ⟨0, rfl, Nat.zero_le _, HROW.out, HBZ.out⟩
 case round => (
 obtain ⟨i, rfl, hi, hrow, hB⟩ := hrel
 have HRO := hid hrow; have HBX := hid hB
 have hwx := hB.size
 have hzl := hrow.lt
 clear hrow hB HROW HBZ
 by_cases hin : i < n
 · (
 have hcs := HCS6.out.below HBX.out (Nat.le_refl _)
 obtain rfl := hcs.ad (by rw [j0g]; omega)
 have c0 := hcs.ci (j0h (clf n f) hin)
 have cl := hcs.lt (by rw [j0g]; omega)
 have has := HAS.out i hin
 rw [has.1] at c0
 obtain ⟨k, hk⟩ : ∃ k, k = asF n f i := ⟨_, rfl⟩
 rw [<- hk] at c0 has
 have hkm := has.2
 have hqs := HQS.out.below HBX.out (Nat.le_refl _)
 have q0 := hqs.ci (j0h C hkm)
 have ql := hqs.lt (by rw [j0g]; omega)
 simp only [Nat.zero_add] at c0 q0
 have zf := HRO.out.frozen i
 have zc := HRO.out.cell hin
 have HNX := hid ((HRO.out.set i (.int .i64 (C k))).congr (g := fun j => .int .i64 (if j < i + 1 then C (asF n f j) else 0)) (fun j _ => by (
 by_cases e : j = i
 · subst e; rw [if_pos rfl, if_pos (by omega), hk]
 · rw [if_neg e]
   by_cases h : j < i
   · rw [if_pos h, if_pos (by omega)]
   · rw [if_neg h, if_neg (by omega)])))
 obtain ⟨ck, hck⟩ : ∃ ck, ck = C k := ⟨_, rfl⟩
 rw [<- hck] at q0 HNX
 have hiI : (i : Int) < (n : Int) := by omega
 have hkI : (k : Int) < (m : Int) := by omega
 clear hcs has hk hqs hck HRO
 go_wp2_with fail
 go_roundw
 case rel => exact ⟨i + 1, by go_num, by omega, HNX.out, HBX.out.setCell hzlo _⟩
 case measure => simp [intOf]; omega)
 · (
 obtain rfl : n = i := by omega
 have hr2 : wr.rowIs zb 3 n (fun j => .int .i64 (C (asF n f j))) := HRO.out.congr (fun j hj => by simp only [if_pos hj])
 have hsl := q0u (f := fun j => C (asF n f j)) hr2
 have hcn := p0v (c := n) hsl (by rw [j0g]; omega) (fun x hx => by (
 obtain ⟨j, hj, rfl⟩ := List.mem_map.1 hx
 have h1 := HAS.out j (List.mem_range.1 hj)
 have h2 := HCR.out _ h1.2
 exact WalkArith.wf_i64 (by omega)))
 rw [j0g, j0u] at hcn
 have HCN := hid hcn
 have hbz := HB6.out.trans (HBX.out.mono hw6)
 have HBZ := hid hbz
 clear hr2 hsl hcn hbz HRO HBX
 go_wp2_with fail
 refine HCN.out.mono ?_
 rintro e w9 ⟨v, rfl, hown, hB9⟩
 have hlen : (fl n (clf n (fun j => C (asF n f j)))).length = n := j0g _ _
 obtain ⟨R, hR⟩ : ∃ R, R = fl n (clf n (fun j => C (asF n f j))) := ⟨_, rfl⟩
 have hres := HRS.out
 rw [<- hR] at hown hlen hres
 have hown2 : w9.ownsRow wr.heap.size 3 1 v R.length (R.flatMap encI) := by rw [hlen]; exact hown
 obtain ⟨ra, rc, rb, rfl, _, _, hrs, _⟩ := j0f k0v hown2
 rw [hlen] at hown2 ⊢
 have hb9 := HBZ.out.trans (hB9.mono HBZ.out.size)
 have HO9 := hid (j0o hown2 HBZ.out.size); have HB9 := hid hb9; have HRS9 := hid hrs; have HRES9 := hid hres
 clear hown hown2 hrs hb9 hB9 hlen hR hres
 go_wp2_with fail
 go_ret2
 exact ⟨R, ra, rb, rc, HRES9.out, rfl, HO9.out, HRS9.out, HB9.out⟩))
end Go.Proofs.YtjchdegapadepaaGreatDoor

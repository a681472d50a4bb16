/-
  Lemmas.
-/
import Derived.Test.YtbaccmlfnbgehaaGreatDoorGWkM
import Derived.Test.YtbaccmlfnbgehaaGreatDoorGTold
import Derived.Test.YtbaccmlfnbgehaaGreatDoorTauA
import Derived.Deep.QuietTactic
import Derived.BigQuiet
import Derived.BigRegion
open Nat renaming le_refl → l1, sub_self → m1, zero_le → m2
open List renaming mem_of_getElem? → l2, length_map → l3, take_length → l5, take_zero → l6, getElem?_map → l7, append_assoc → l8, append_nil → l9, mem_range → m0, range → m3
open Int renaming toNat_natCast → l4
open Go.Proofs.Tryz
namespace Go.Proofs.YtbaccmlfnbgehaaGreatDoor
open Go.RowKit Pl
open Lib (hid)
structure SilT (w : World) (lo sb n : Nat) (F : Nat -> Nat -> Bool) (I : List Nat) : Prop where
  ex : ∃ bk : Nat -> Nat, w.rowIs sb 124 n (fun p => if p ∈ I then .slice (some ⟨bk p, 0, none⟩) (wds n) (wds n) else .slice none 0 0) /\ ∀ p, p ∈ I -> bk p ≠ sb /\ lo <= bk p /\ BitRow w (bk p) (wds n) (F p)
section
variable {w w' : World} {lo sb n : Nat} {F : Nat -> Nat -> Bool} {I : List Nat}
theorem SilT.call (h : SilT w lo sb n F I) (hB : Below w.heap.size w w') : SilT w' lo sb n F I := by
 obtain ⟨bk, h1, h2⟩ := h.ex
 exact ⟨bk, h1.of_block (hB.block sb h1.lt), fun p hp => ⟨(h2 p hp).1, (h2 p hp).2.1, (h2 p hp).2.2.below hB⟩⟩
theorem SilT.sblt (h : SilT w lo sb n F I) : sb < w.heap.size := by obtain ⟨bk, h1, _⟩ := h.ex; exact h1.lt
theorem SilT.at (h : SilT w lo sb n F I) {p : Nat} (hp : p < n) (hi : p ∈ I) : ∃ b, w.cell? ⟨sb, p, none⟩ = some (.slice (some ⟨b, 0, none⟩) (wds n) (wds n)) /\ b < w.heap.size /\ BitRow w b (wds n) (F p) := by
 obtain ⟨bk, h1, h2⟩ := h.ex
 have h3 := h1.cell hp
 rw [if_pos hi] at h3
 exact ⟨bk p, h3, (h2 p hi).2.2.lt, (h2 p hi).2.2⟩
theorem SilT.frozen (h : SilT w lo sb n F I) (p : Nat) : w.frozen? ⟨sb, p, none⟩ = false := by obtain ⟨bk, h1, _⟩ := h.ex; exact h1.frozen p
theorem SilT.cellx (h : SilT w lo sb n F I) {p : Nat} (hp : p < n) : ∃ v, w.cell? ⟨sb, p, none⟩ = some v := by obtain ⟨bk, h1, _⟩ := h.ex; exact ⟨_, h1.cell hp⟩
theorem SilT.congr {G : Nat -> Nat -> Bool} (h : SilT w lo sb n F I) (e : ∀ p, p ∈ I -> F p = G p) : SilT w lo sb n G I := by
 obtain ⟨bk, h1, h2⟩ := h.ex
 exact ⟨bk, h1, fun p hp => ⟨(h2 p hp).1, (h2 p hp).2.1, by rw [<- e p hp]; exact (h2 p hp).2.2⟩⟩
theorem SilT.put (h : SilT w lo sb n F I) {rb p : Nat} {R : Nat -> Bool} (hb : BitRow w rb (wds n) R) (hne : rb ≠ sb) (hlo : lo <= rb) :
    SilT (w.setCell ⟨sb, p, none⟩ (.slice (some ⟨rb, 0, none⟩) (wds n) (wds n))) lo sb n (fun q => if q = p then R else F q) (I ++ [p]) := by
 obtain ⟨bk, h1, h2⟩ := h.ex
 refine ⟨fun q => if q = p then rb else bk q, (h1.set p _).congr (fun q _ => ?_), fun q hq => ?_⟩
 · by_cases e : q = p
   · subst e; simp
   · simp [e]
 · (
 by_cases e : q = p
 · subst e
   simp only [if_true]
   exact ⟨hne, hlo, hb.of_block (Below.heap_setCell _ _ _ _ hne)⟩
 · have hi : q ∈ I := by simpa [e] using hq
   simp only [if_neg e]
   exact ⟨(h2 q hi).1, (h2 q hi).2.1, (h2 q hi).2.2.of_block (Below.heap_setCell _ _ _ _ (h2 q hi).1)⟩)
theorem SilT.all (h : SilT w lo sb n F I) (hI : ∀ p, p < n -> p ∈ I) : SilT w lo sb n F (m3 n) := by
 obtain ⟨bk, h1, h2⟩ := h.ex
 exact ⟨bk, h1.congr (fun p hp => by rw [if_pos (hI p hp), if_pos (m0.2 hp)]), fun p hp => h2 p (hI p (m0.1 hp))⟩
theorem SilT.made (w : World) (lo n : Nat) (F : Nat -> Nat -> Bool) : SilT (w.alloc (.cells (madeCells #[.slice none 0 0] n) 124)) lo w.heap.size n F [] :=
  ⟨fun _ => 0, (World.rowIs_made w (.slice none 0 0) n 124).congr (fun _ _ => by simp), fun p hp => by simp at hp⟩
end
set_option maxRecDepth 100000 in
set_option maxHeartbeats 16000000 in
theorem x1r {w : World} {gb : Nat} {s : Lts} {n : Nat} (hg : GraphAt w gb s.norm) (hr : s.Right) (hn : s.st = (n : Int)) {f : Nat -> Int} {D : List Nat} (hb : BlkO s n f D)
    {ya oa : Option Addr} {yb yo yc ob oo oc : Nat} (hY : SlAt encI 1 w ya yb yo (fl n (clf n f))) (hO : SlAt encI 1 w oa ob oo ((ordO n f D).map Int.ofNat)) :
    Calls prog 161 #[.pointer (some ⟨gb, 0, none⟩), .slice oa n oc, .slice ya n yc] w fun e w' => ∃ (sb : Nat) (F : Nat -> Nat -> Bool), e = .returned (.slice (some ⟨sb, 0, none⟩) n n) /\ SilT w' w.heap.size sb n F (m3 n) /\ w.heap.size <= sb /\ Below w.heap.size w w' /\ ∀ p, p < n -> ∀ x, F p x = true ↔ TR s p x := by
 have hn1 : n <= 1000 := by have := hr.st0; omega
 have hmk := run_make_row' (P := prog) 120 124 (.slice none 0 0) 24 underlying120 (by kernel_rfl) rfl .i64 .i64 n (by omega) (by omega)
 have hgs := p0c hg
 rw [show s.norm.st = (n : Int) from hn] at hgs
 have hwn := p0g hn1
 have HG := hid hg; have HR := hid hr; have HN := hid hn; have HBK := hid hb; have HY := hid hY; have HO := hid hO; have HGS := hid hgs
 have HOL := hid hb.len
 clear hg hr hn hb hY hO hgs
 go_enter func161, ntmps161
 go_wp2_with fail
 refine HGS.out.mono ?_
 rintro e w1 ⟨rfl, hB1⟩
 have hrw := SilT.made w1 w.heap.size n (fun _ _ => false)
 have hb1 := (hB1.alloc hB1.size (.cells (madeCells #[.slice none 0 0] n) 124))
 have HRW := hid hrw; have HB1 := hid hb1
 have hTB : w.heap.size <= w1.heap.size := hB1.size
 clear hrw hb1 hB1 HGS
 go_wp2_with fail
 obtain ⟨tb, htb⟩ : ∃ tb, tb = w1.heap.size := ⟨_, rfl⟩
 rw [<- htb] at HRW hTB ⊢
 clear htb
 go_loopw [8, 9, 10, 12] (fun v8 _ _ _ wr => ∃ (d : Nat) (F : Nat -> Nat -> Bool), v8 = .int .i64 (offO n f D d) /\ offO n f D d <= n /\ SilT wr w.heap.size tb n F (ordO n f (D.take d)) /\ Below w.heap.size w wr /\ (∀ p, p ∈ ordO n f (D.take d) -> ∀ x, F p x = true ↔ TR s p x) /\ (offO n f D d = n -> ∀ p, p < n -> p ∈ ordO n f (D.take d))) (fun v8 _ _ _ _ => n - (intOf v8).toNat)
 case atStart => exact ⟨0, fun _ _ => false, by rw [v0d]; rfl, by rw [v0d]; exact m2 _, by simpa [ordO] using HRW.out, HB1.out, by simp [ordO], fun h p hp => by rw [v0d] at h; omega⟩
 case round => (
 obtain ⟨d, F, rfl, hin, hrw, hB, hF, hAll⟩ := hrel
 have HRX := hid hrw; have HB := hid hB; have HF := hid hF; have HAL := hid hAll
 have hws := hB.size
 clear hrw hB hF HRW HB1 hAll
 by_cases hlt : offO n f D d < n
 · (
 obtain ⟨k, hk⟩ := HBK.out.more hlt
 have HK := hid hk
 have hpos := HBK.out.blk_pos (l2 hk)
 have hole := HBK.out.off_le hk
 obtain ⟨i, hi⟩ : ∃ i, i = offO n f D d := ⟨_, rfl⟩
 obtain ⟨B, hBe⟩ : ∃ B, B = blkO n f k := ⟨_, rfl⟩
 obtain ⟨m, hm⟩ : ∃ m, m = B.length := ⟨_, rfl⟩
 rw [<- hi] at hlt hole ⊢
 rw [<- hBe] at hpos hole
 rw [<- hm] at hpos hole
 have HAT : Hid (∀ j, j < m -> ∃ p, B[j]? = some p /\ (ordO n f D)[i + j]? = some p /\ p < n /\ asF n f p = k) := hid (fun j hj => by (
 have h1 : j < (blkO n f k).length := by rw [<- hBe, <- hm]; exact hj
 have h2 := j3g hk h1
 rw [<- hi] at h2
 have h3 := List.getElem?_eq_getElem h1
 have h4 := p0b.1 (l2 h3)
 exact ⟨_, by rw [hBe]; exact h3, by rw [h2]; exact h3, h4.1, h4.2⟩))
 have HNX : Hid (∀ y, (ordO n f D)[i + m]? = some y -> y < n /\ asF n f y ≠ k) := hid (fun y hy => by
   refine HBK.out.next hk ?_
   rw [<- hi, <- hBe, <- hm]; exact hy)
 have HIE := hid hi; have HBE := hid hBe; have HM := hid hm
 obtain ⟨W, hW⟩ : ∃ W, W = wr := ⟨_, rfl⟩
 subst hW
 have hlt0 : (i : Int) < (n : Int) := by omega
 obtain rfl := HO.out.ad (by rw [l3, HOL.out]; omega)
 obtain rfl := HY.out.ad (by rw [j0v]; omega)
 have HOC : Hid (∀ wx, Below W.heap.size W wx -> ∀ q p : Nat, (ordO n f D)[q]? = some p -> p < n -> wx.cell? ⟨ob, oo + q, none⟩ = some (.int .i64 (p : Int)) /\ wx.cell? ⟨yb, yo + p, none⟩ = some (.int .i64 (asF n f p : Int)) /\ ob < wx.heap.size /\ yb < wx.heap.size) := hid (fun wx hBx q p hqp hp => by (
 have hbb := HB.out.trans (hBx.mono hws)
 have h1 := (HO.out.below hbb (l1 _)).ci (i := q) (x := (p : Int)) (by rw [l7, hqp]; rfl)
 have h2 := (HY.out.below hbb (l1 _)).ci (j0t (clf n f) hp)
 rw [x0e hp] at h2
 have := hbb.size
 have h3 := HO.out.lt (by rw [l3, HOL.out]; omega)
 have h4 := HY.out.lt (by rw [j0v]; omega)
 exact ⟨h1, h2, by omega, by omega⟩))
 clear hk hi hBe hm
 obtain ⟨p0, _, h0, hp0, hk0⟩ := HAT.out 0 hpos
 rw [Nat.add_zero] at h0
 have HP0 := hid h0; have HK0 := hid hk0
 clear h0 hk0
 have hgs2 := p0c (HG.out.below HB.out)
 rw [show s.norm.st = (n : Int) from HN.out] at hgs2
 have HGS2 := hid hgs2
 clear hgs2
 go_wp2_with fail
 refine HGS2.out.mono ?_
 rintro e wa ⟨rfl, hBa⟩
 have HBA := hid hBa
 have HNR := hid (p0u wa (n := n) (by omega))
 clear hBa HGS2
 go_wp2_with fail
 refine HNR.out.mono ?_
 rintro e wb ⟨rfl, hrow, hBb, hsb⟩
 obtain ⟨rb, hrb⟩ : ∃ rb, rb = wa.heap.size := ⟨_, rfl⟩
 have hrW : W.heap.size <= rb := by have := HBA.out.size; omega
 have hbb : Below W.heap.size W wb := HBA.out.trans (hBb.mono HBA.out.size)
 rw [<- hrb] at hrow ⊢
 have hr0 : BitRow wb rb (wds n) (silR s.norm n f F (B.take (i - i))) := by
   rw [m1, l6, y2m]; exact hrow
 have HR0 := hid hr0; have HBB := hid hbb
 clear hrow hBb hsb hrb hbb hr0 HNR HBA
 go_wp2_with fail
 go_loopw [9, 12] (fun v9 _ wx => ∃ q : Nat, v9 = .int .i64 q /\ i <= q /\ q <= i + m /\ BitRow wx rb (wds n) (silR s.norm n f F (B.take (q - i))) /\ Below W.heap.size W wx) (fun v9 _ _ => n + 1 - (intOf v9).toNat)
 case atStart => exact ⟨i, rfl, l1 _, by omega, HR0.out, HBB.out⟩
 case round => (
 obtain ⟨q, rfl, hiq, hqm, hrow, hBx⟩ := hrel
 have HROW := hid hrow; have HBX := hid hBx
 have hwx := hBx.size
 clear hrow hBx HR0 HBB
 obtain ⟨o1, y1, ol1, yl1⟩ := HOC.out _ HBX.out i p0 HP0.out hp0
 rw [HK0.out] at y1
 have hp0I : (p0 : Int) < (n : Int) := by omega
 by_cases hq : q < i + m
 · (
 obtain ⟨p, hpB, hpO, hpn, hpk⟩ := HAT.out (q - i) (by omega)
 rw [show i + (q - i) = q by omega] at hpO
 obtain ⟨o0, y0, _, _⟩ := HOC.out _ HBX.out q p hpO hpn
 rw [hpk] at y0
 have HPB := hid hpB; have HPK := hid hpk; have HPO := hid hpO
 have hqI : (q : Int) < (n : Int) := by omega
 have hpI : (p : Int) < (n : Int) := by omega
 have hqn : q < n := by omega
 clear hpB hpO hpk
 have hkk : ((k : Int) == (k : Int)) = true := by simp
 have HPU := hid (fun mm => z0y (w := wr.drewN mm) (HROW.out.of_block rfl) (k2q hpn) (by omega))
 have HBD := hid (fun mm => (j0q (n := mm) HBX.out : Below W.heap.size W (wr.drewN mm)))
 clear HROW HBX
 go_wp2_with fail
 go_quiet (fail)
 go_wp2_with fail
 refine (HPU.out nq).mono ?_
 rintro e wc ⟨rfl, hrow, hch⟩
 have hbc := (HBD.out nq).trans (hch.bel _ hrW)
 obtain ⟨o2, y2, ol2, yl2⟩ := HOC.out _ hbc q p HPO.out hpn
 have HRC := hid hrow; have HBC := hid hbc
 have HBY := hid (q1x (HG.out.below (HB.out.trans (hbc.mono hws))) (p : Int) 0)
 clear hrow hch hbc HPU HBD o0 o1 y0 y1 hkk
 go_wp2_with fail
 refine HBY.out.mono ?_
 rintro e wd ⟨v, rfl, hown, hBd⟩
 obtain ⟨T, hT⟩ : ∃ T, T = withL 0 (s.norm.outs (p : Int)) := ⟨_, rfl⟩
 rw [<- hT] at hown
 obtain ⟨la, lc, lb, rfl, _, _, hls, hlb⟩ := j0d p0v hown
 have hbd := HBC.out.trans (hBd.mono HBC.out.size)
 have hrd : BitRow wd rb (wds n) (silW s.norm n f F (B.take (q - i)) p (T.take 0)) := by
   rw [l6, y2l]
   exact HRC.out.below hBd
 have HTE := hid hT
 have hTl : T.length <= 10000 := by
   rw [hT]; have := q0c HR.out.norm (p : Int); unfold withL; rw [l3]; exact Nat.le_trans (List.length_filter_le _ _) (by omega)
 have HLB : Hid (0 < T.length -> wc.heap.size <= lb) := hid hlb
 have HLSD := hid hls; have HBDD := hid hbd; have HRD := hid hrd
 have hrbc : rb < wc.heap.size := HRC.out.lt
 have hwcd : wc.heap.size <= wd.heap.size := hBd.size
 obtain ⟨tl, htl⟩ : ∃ tl, tl = T.length := ⟨_, rfl⟩
 rw [<- htl] at hTl ⊢
 have HTL := hid htl
 clear hown hBd hls hlb hbd hrd hT htl HBY HRC HBC o2 y2 ol2 yl2
 go_wp2_with fail
 go_loopw [12, 60] (fun _ v60 wx => ∃ r : Nat, v60 = .int .i64 r /\ r <= tl /\ BitRow wx rb (wds n) (silW s.norm n f F (B.take (q - i)) p (T.take r)) /\ SlAt encI 1 wx la lb 0 T /\ Below W.heap.size W wx) (fun _ v60 _ => tl - (intOf v60).toNat)
 case atStart => exact ⟨0, rfl, m2 _, HRD.out, HLSD.out, HBDD.out⟩
 case round => (
 obtain ⟨r, rfl, hr, hrow, hls, hBx⟩ := hrel
 have HROW := hid hrow; have HLS := hid hls; have HBX := hid hBx
 have hwx := hBx.size
 clear hrow hls hBx HRD HLSD HBDD
 by_cases hro : r < tl
 · (
 obtain ⟨t, ht⟩ := j0a (xs := T) (i := r) (by rw [<- HTL.out]; exact hro)
 obtain rfl := HLS.out.ad (by rw [<- HTL.out]; omega)
 have l0 := HLS.out.ci ht
 simp only [Nat.zero_add] at l0
 have ll := HLS.out.lt (by rw [<- HTL.out]; omega)
 have htm := l2 ht
 rw [HTE.out] at htm
 have hst : (0, t) ∈ s.norm.outs (p : Int) := by (
 unfold withL at htm
 obtain ⟨⟨a, b⟩, h3, rfl⟩ := List.mem_map.1 htm
 have h4 := List.mem_filter.1 h3
 simp only [beq_iff_eq] at h4
 obtain ⟨h4, rfl⟩ := h4
 exact h4)
 have hyr := j0g.1 (HR.out.norm.edges _ (j0s.1 hst))
 simp only at hyr
 obtain ⟨u, rfl⟩ := Int.eq_ofNat_of_zero_le hyr.2.2.2.2.1
 have htau : tau s p u := p0r.1 (j0s.1 hst)
 have hun : u < n := by have : s.norm.st = (n : Int) := HN.out; omega
 have HSN : Hid (T.take (r + 1) = T.take r ++ [(u : Int)]) := hid (take_snoc ht)
 have HTAU := hid htau
 have hrI : (r : Int) < (tl : Int) := by omega
 have huI : (u : Int) < (n : Int) := by omega
 obtain ⟨g0, g1, gl0, gl1⟩ := HOC.out _ HBX.out q p HPO.out hpn
 rw [HPK.out] at g1
 have g2 : wr.cell? ⟨yb, yo + u, none⟩ = some (.int .i64 (asF n f u : Int)) := by (
 have h2 := (HY.out.below (HB.out.trans (HBX.out.mono hws)) (l1 _)).ci (j0t (clf n f) hun)
 rw [x0e hun] at h2
 exact h2)
 obtain ⟨ku, hku⟩ : ∃ ku, ku = asF n f u := ⟨_, rfl⟩
 rw [<- hku] at g2
 clear ht htm hst hyr htau
 by_cases hkk : ku = k
 · (
 have HSH := hid (p2j (s := s.norm) (F := F) (B.take (q - i)) p (T := T.take r) (t := (u : Int)) (n := n) (f := f) (by simp only [l4]; rw [<- hku, hkk, HPK.out]))
 have hkb : ((ku : Int) == (k : Int)) = true := by rw [hkk]; simp
 have HZ := hid (fun mm => (j0q (n := mm) HBX.out : Below W.heap.size W (wr.drewN mm)))
 have HL := hid (fun mm => (HLS.out.below (j0q (n := mm) (Below.refl wr.heap.size wr)) (l1 _)))
 clear hku hkk
 go_wp2_with fail
 go_quiet (fail)
 go_wp2_with fail
 go_roundw
 case rel => exact ⟨r + 1, by go_num, by omega, by rw [HSN.out, HSH.out]; exact HROW.out.of_block rfl, HL.out _, HZ.out _⟩
 case measure => simp [intOf]; omega)
 · (
 have HSH := hid (p2k (s := s.norm) (F := F) (B.take (q - i)) p (T := T.take r) (t := (u : Int)) (n := n) (f := f) (by simp only [l4]; rw [<- hku, HPK.out]; exact hkk))
 simp only [l4] at HSH
 have hkb : ((ku : Int) == (k : Int)) = false := by simp; omega
 have hui := HBK.out.ahead HK.out hpn HPK.out HTAU.out (by rw [<- hku]; exact hkk)
 obtain ⟨ub, hub, hubl, hubr⟩ := HRX.out.at hun hui
 have htbl := HRX.out.sblt
 have hub2 : wr.cell? ⟨tb, u, none⟩ = some (.slice (some ⟨ub, 0, none⟩) (wds n) (wds n)) := by
   rw [World.cell?_of_block (w := W) (a := ⟨tb, u, none⟩) (HBX.out.block tb htbl)]; exact hub
 have htl2 : tb < wr.heap.size := by omega
 have HJO := hid (fun mm => v0s (w := wr.drewN mm) (HROW.out.of_block rfl) (hubr.of_block (HBX.out.block ub hubl)) (by omega) (by omega))
 have HBD := hid (fun mm => (j0q (n := mm) HBX.out : Below W.heap.size W (wr.drewN mm)))
 have HL := hid (fun mm => (HLS.out.below (j0q (n := mm) (Below.refl wr.heap.size wr)) (l1 _)))
 have hlbr : 0 < T.length -> lb ≠ rb := fun h => by have := HLB.out h; omega
 have HLBR := hid hlbr
 clear hku hkk hui hub hubl hubr hlbr HROW HBX HLS
 go_wp2_with fail
 go_quiet (fail)
 go_wp2_with fail
 refine (HJO.out nq).mono ?_
 rintro e w5 ⟨rfl, hrow5, hch5⟩
 have HR5 := hid hrow5
 have HB5 := hid ((HBD.out nq).trans (hch5.bel _ hrW))
 have hls5 : SlAt encI 1 w5 (some ⟨lb, 0, none⟩) lb 0 T := ⟨(HL.out nq).ad, fun hp => by rw [hch5.size]; exact (HL.out nq).lt hp, fun i2 x hx j2 u2 hu2 => by (
 have hp : 0 < T.length := by have := (List.getElem?_eq_some_iff.1 hx).1; omega
 rw [World.cell?_of_block (w := wr.drewN nq) (a := ⟨lb, 0 + i2 * 1 + j2, none⟩) (hch5.oth lb (HLBR.out hp) ((HL.out nq).lt hp))]
 exact (HL.out nq).cell i2 x hx j2 u2 hu2)⟩
 have HL5 := hid hls5
 clear hrow5 hch5 hls5 HJO HBD HL
 go_wp2_with fail
 go_roundw
 case rel => exact ⟨r + 1, by go_num, by omega, by rw [HSN.out, HSH.out]; exact HR5.out, HL5.out, HB5.out⟩
 case measure => simp [intOf]; omega))
 · (
 obtain rfl : r = tl := by omega
 have hrow : BitRow wr rb (wds n) (silR s.norm n f F (B.take (q + 1 - i))) := by (
 have h1 := HROW.out
 rw [HTL.out, l5, HTE.out, p2l] at h1
 rw [show q + 1 - i = (q - i) + 1 by omega, take_snoc HPB.out]
 exact h1)
 have HR5 := hid hrow; have HB5 := hid HBX.out
 clear hrow HROW HBX HLS
 go_wp2_with fail
 go_roundw
 case rel => exact ⟨q + 1, by go_num, by omega, by omega, HR5.out, HB5.out⟩
 case measure => simp [intOf]; omega)))
 · (
 have hqe : q = i + m := by omega
 have hrow : BitRow wr rb (wds n) (silR s.norm n f F B) := by (
 have h1 := HROW.out
 rw [show q - i = m by omega, HM.out, l5] at h1
 exact h1)
 have HSG : Hid (∀ p, p < n -> asF n f p = k -> ∀ x, silR s.norm n f F B x = true ↔ TR s p x) := hid (fun p hp hpk x => by
   rw [HBE.out]
   exact y2n (g := s.norm) HBK.out (fun p t => by rw [j0s]; exact p0r) HR.out.norm HK.out HF.out hp hpk x)
 obtain ⟨R, hRe⟩ : ∃ R, R = silR s.norm n f F B := ⟨_, rfl⟩
 rw [<- hRe] at HSG hrow
 have HROW2 := hid hrow
 have HQE := hid hqe
 have HB2 := hid (fun mm => (j0q (n := mm) HBX.out : Below W.heap.size W (wr.drewN mm)))
 clear hrow hRe HROW HBX
 rcases Nat.lt_or_ge q n with hqn | hqn
 case' inl =>
   obtain ⟨y, hy⟩ := j0a (xs := ordO n f D) (i := q) (by rw [HOL.out]; exact hqn)
   have hyn := HNX.out y (by rw [<- HQE.out]; exact hy)
   obtain ⟨o0, y0, _, _⟩ := HOC.out wr (HB2.out 0) q y hy hyn.1
   obtain ⟨ky, hky⟩ : ∃ ky, ky = asF n f y := ⟨_, rfl⟩
   rw [<- hky] at y0 hyn
   have hkb : ((ky : Int) == (k : Int)) = false := by simp; omega
   have hqI : (q : Int) < (n : Int) := by omega
   have hynI : (y : Int) < (n : Int) := by omega
   have hyn1 := hyn.1
   clear hy hyn hky hqe
 case' inr =>
   have hqI : decide ((q : Int) < (n : Int)) = false := by simp; omega
   have hqI2 : decide (q < n) = false := by simp; omega
   clear hqe hqn
 all_goals (
 go_wp2_with fail
 go_quiet (fail)
 have hsil := HRX.out.call (HB2.out nq)
 have hrow4 : BitRow (wr.drewN nq) rb (wds n) R := HROW2.out.of_block rfl
 obtain ⟨w4, hw4⟩ : ∃ w4, w4 = wr.drewN nq := ⟨_, rfl⟩
 have hb4 := HB.out.trans ((HB2.out nq).mono hws)
 rw [<- hw4] at hsil hrow4 hb4 ⊢
 have HS4 : Hid (SilT w4 w.heap.size tb n (fun x => if x ∈ B.take (i - i) then R else F x) (ordO n f (D.take d) ++ B.take (i - i))) := hid (by
   rw [m1, l6, l9]
   exact hsil.congr (fun x _ => by simp))
 have HR4 := hid hrow4; have HB4 := hid hb4
 have hrtb : rb ≠ tb := by have := HRX.out.sblt; omega
 clear hw4 hsil hrow4 hb4 HROW2 HB2 hqI o1 y1 ol1 yl1
 go_wp2_with fail
 go_loopw [8] (fun v8 wx => ∃ j : Nat, v8 = .int .i64 j /\ i <= j /\ j <= q /\ SilT wx w.heap.size tb n (fun x => if x ∈ B.take (j - i) then R else F x) (ordO n f (D.take d) ++ B.take (j - i)) /\ BitRow wx rb (wds n) R /\ Below w.heap.size w wx) (fun v8 _ => n + 1 - (intOf v8).toNat)
 case atStart => exact ⟨i, rfl, l1 _, by omega, HS4.out, HR4.out, HB4.out⟩
 case round => (
 obtain ⟨j, rfl, hij, hjq, hsil, hrow, hBx⟩ := hrel
 have HSI := hid hsil; have HRO := hid hrow; have HBX := hid hBx
 clear hsil hrow hBx HS4 HR4 HB4
 have hqe := HQE.out
 by_cases hlt2 : j < q
 · (
 obtain ⟨p, hpB, hpO, hpn, hpk⟩ := HAT.out (j - i) (by omega)
 rw [show i + (j - i) = j by omega] at hpO
 have o0 := (HO.out.below HBX.out (l1 _)).ci (i := j) (x := (p : Int)) (by rw [l7, hpO]; rfl)
 have hobx : ob < wr.heap.size := by have := HBX.out.size; have := HO.out.lt (by rw [l3, HOL.out]; omega); omega
 have hjI : (j : Int) < (q : Int) := by omega
 have hjN : (j : Int) < (n : Int) := by omega
 have hpI : (p : Int) < (n : Int) := by omega
 obtain ⟨tv, tc⟩ := HSI.out.cellx hpn
 have tf := HSI.out.frozen p
 have tl2 := HSI.out.sblt
 have hput := HSI.out.put (p := p) HRO.out hrtb (by omega)
 have hput2 : SilT (wr.setCell ⟨tb, p, none⟩ (.slice (some ⟨rb, 0, none⟩) (wds n) (wds n))) w.heap.size tb n (fun x => if x ∈ B.take (j + 1 - i) then R else F x) (ordO n f (D.take d) ++ B.take (j + 1 - i)) := by (
 rw [show j + 1 - i = (j - i) + 1 by omega, take_snoc hpB, <- l8]
 refine hput.congr (fun x _ => ?_)
 by_cases e : x = p
 · subst e; simp
 · simp [e])
 have HPUT := hid hput2
 have HRO2 := hid (HRO.out.of_block (w' := wr.setCell ⟨tb, p, none⟩ (.slice (some ⟨rb, 0, none⟩) (wds n) (wds n))) (Below.heap_setCell _ _ _ _ hrtb))
 have HBX2 := hid (HBX.out.setCell (p := ⟨tb, p, none⟩) hTB (.slice (some ⟨rb, 0, none⟩) (wds n) (wds n)))
 clear hpB hpO hpk hqe hput hput2 HSI HRO HBX
 go_wp2_with fail
 go_roundw
 case rel => exact ⟨j + 1, by go_num, by omega, by omega, HPUT.out, HRO2.out, HBX2.out⟩
 case measure => simp [intOf]; omega)
 · (
 obtain rfl : j = q := by omega
 have HDN : Hid (offO n f D (d + 1) = j) := hid (by rw [q2c HK.out, <- HIE.out, <- HBE.out, <- HM.out]; omega)
 have HOS : Hid (ordO n f (D.take (d + 1)) = ordO n f (D.take d) ++ B) := hid (by rw [q0p HK.out, <- HBE.out])
 have HTK2 : Hid (B.take (j - i) = B) := hid (by rw [show j - i = m by omega, HM.out, l5])
 have HSI2 : Hid (SilT wr w.heap.size tb n (fun x => if x ∈ B then R else F x) (ordO n f (D.take (d + 1)))) := hid (by (
 have h1 := HSI.out
 rw [HTK2.out, <- HOS.out] at h1
 exact h1))
 have HF9 : Hid (∀ p, p ∈ ordO n f (D.take (d + 1)) -> ∀ x, (if p ∈ B then R else F p) x = true ↔ TR s p x) := hid (fun p hp x => by (
 rw [HOS.out] at hp
 by_cases hpB : p ∈ B
 · rw [if_pos hpB]
   have h1 := p0b.1 (by rw [<- HBE.out]; exact hpB)
   exact HSG.out p h1.1 h1.2 x
 · rw [if_neg hpB]
   exact HF.out p ((List.mem_append.1 hp).resolve_right hpB) x))
 have HA9 : Hid (offO n f D (d + 1) = n -> ∀ p, p < n -> p ∈ ordO n f (D.take (d + 1))) := hid (fun h p hp => by (
 have h1 := HBK.out.len
 have h2 := x0a HK.out (n := n) (f := f)
 have h3 : (ordO n f (D.take (d + 1))).length = n := h
 rw [h2, <- l8, <- q0p HK.out, List.length_append] at h1
 have h4 : ordO n f (D.drop (d + 1)) = [] := List.eq_nil_of_length_eq_zero (by omega)
 have h5 : p ∈ ordO n f D := k1m.2 ⟨hp, HBK.out.all _ (p3n hp)⟩
 rw [h2, h4, l9, <- q0p HK.out] at h5
 exact h5))
 clear hqe
 go_wp2_with fail
 go_roundw
 case rel => exact ⟨d + 1, _, by rw [HDN.out], by rw [HDN.out]; omega, HSI2.out, HBX.out, HF9.out, HA9.out⟩
 case measure => simp [intOf]; omega))))))
 · (
 have hd : offO n f D d = n := by omega
 have HALL : Hid (∀ p, p < n -> ∀ x, F p x = true ↔ TR s p x) := hid (fun p hp => HF.out p (HAL.out hd p hp))
 have HRA := hid (HRX.out.all (HAL.out hd))
 rw [hd]
 clear hd hlt
 go_wp2_with fail
 go_ret
 exact ⟨tb, F, rfl, HRA.out, hTB, HB.out, HALL.out⟩))
end Go.Proofs.YtbaccmlfnbgehaaGreatDoor

/-
  Lemmas.
-/
import Derived.Test.YtbaccmlfnbgehaaGreatDoorGOMap
import Derived.Test.YtbaccmlfnbgehaaGreatDoorWkB
import Derived.Test.YtbaccmlfnbgehaaGreatDoorGWkE
import Derived.Deep.QuietTactic
import Derived.Deep.RegionHeldLaw
import Derived.BigQuiet
import Derived.BigRegion
open List renaming getElem_toArray -> qga, getElem_cons_zero -> qgz, getElem_cons_succ -> qgs, setIfInBounds_toArray -> qgt, set_cons_zero -> qgx, set_cons_succ -> qgy
open Array renaming getElem?_eq_some_iff → l3
open Nat renaming zero_le → l4, le_refl → l5, le_of_eq → l6
open Go.Proofs.Tryz
namespace Go.Proofs.YtbaccmlfnbgehaaGreatDoor
open Go.RowKit Pl
open Lib (hid)
structure StepsAt (w : World) (xb gb sb n : Nat) (s : Lts) (F : Nat -> Nat -> Bool) : Prop where
  blk : w.heap[xb]? = some (.cells #[.pointer (some ⟨gb, 0, none⟩), .slice (some ⟨sb, 0, none⟩) n n] 122 (0, 0))
  gr : GraphAt w gb s.norm
  right : s.Right
  st : s.st = (n : Int)
  sil : SilT w 0 sb n F (List.range n)
  tr : ∀ p, p < n -> ∀ x, F p x = true ↔ TR s p x
theorem StepsAt.call {w w' : World} {xb gb sb n : Nat} {s : Lts} {F : Nat -> Nat -> Bool} (h : StepsAt w xb gb sb n s F) (hB : Below w.heap.size w w') : StepsAt w' xb gb sb n s F :=
  ⟨(hB.block xb (l3.1 h.blk).1).trans h.blk, h.gr.below hB, h.right, h.st, h.sil.call hB, h.tr⟩
theorem StepsAt.cells {w : World} {xb gb sb n : Nat} {s : Lts} {F : Nat -> Nat -> Bool} (h : StepsAt w xb gb sb n s F) : w.cell? ⟨xb, 0, none⟩ = some (.pointer (some ⟨gb, 0, none⟩)) /\ w.cell? ⟨xb, 1, none⟩ = some (.slice (some ⟨sb, 0, none⟩) n n) /\ xb < w.heap.size := by
 have := h.blk
 exact ⟨by simp [World.cell?, this], by simp [World.cell?, this], (l3.1 this).1⟩
def EndAt (w : World) (n WD : Nat) (fn : Nat) (cap : Value) (G : Nat -> Nat -> Bool) (gbk : Nat -> Nat) : Prop :=
  (∀ t, t < n -> BitRow w (gbk t) WD (G t)) /\ ∀ V, Below w.heap.size w V -> ∀ t : Nat, t < n -> Calls prog fn #[.int .i64 t, cap] V fun e V' => e = .returned (.slice (some ⟨gbk t, 0, none⟩) WD WD) /\ Below V.heap.size V V'
set_option maxRecDepth 100000 in
set_option maxHeartbeats 16000000 in
theorem u1f {w : World} {xb gb sb n lb Wn : Nat} {s : Lts} {F : Nat -> Nat -> Bool} (hX : StepsAt w xb gb sb n s F) (hlb : s.lb = (lb : Int)) (hWn : Wn <= 1000) {fn : Nat} (eg : ∀ args w, (callFunc fn args).run prog w = .ok (.enter fn args) w) {cap : Value} {G : Nat -> Nat -> Bool} {gbk : Nat -> Nat} (hE : EndAt w n (wds Wn) fn cap G gbk)
    (hT : Tab w) :
    Calls prog 92 #[.pointer (some ⟨xb, 0, none⟩), .int .i64 Wn, .func (.func fn) #[] #[cap]] w fun e w' => ∃ (tb : Nat) (R : Nat -> Nat -> Option (Nat -> Bool)), e = .returned (.slice (some ⟨tb, 0, none⟩) n n) /\ WkT w' w'.heap.size tb n lb (wds Wn) n (.slice none 0 0) R /\ w.heap.size <= tb /\ Below w.heap.size w w' /\ ∀ p l, p < n -> l < lb -> EndsOk s G p (l : Int) (R p l) := by
 have hst := hX.right.st0
 have hn1 : n <= 1000 := by have := hX.st; omega
 have hlb1 : 1 <= lb /\ lb <= 201 := by omega
 have hwd := p0g hWn
 obtain ⟨WD, hWD⟩ : ∃ WD, WD = wds Wn := ⟨_, rfl⟩
 rw [<- hWD] at hE hwd ⊢
 have hmk := run_make_row' (P := prog) 125 120 (.slice none 0 0) 24 underlying125 (by kernel_rfl) rfl .i64 .i64 n (by omega) (by omega)
 have hmk2 := run_make_row' (P := prog) 120 124 (.slice none 0 0) 24 underlying120 (by kernel_rfl) rfl .i64 .i64 lb (by omega) (by omega)
 have hgl := k1z hX.gr
 rw [show s.norm.lb = (lb : Int) from hlb] at hgl
 obtain ⟨x0, x1, x2⟩ := hX.cells
 have HX := hid hX; have HE := hid hE; have HT := hid hT; have HWD := hid hWD; have HLB : Hid (s.norm.lb = (lb : Int)) := hid hlb; have HGL := hid hgl
 have HGS : Hid (∀ V, Below w.heap.size w V -> Calls prog 131 #[.pointer (some ⟨gb, 0, none⟩)] V fun e w' => e = .returned (.int .i64 n) /\ Below V.heap.size V w') := hid (fun V hV => by (
 have h1 := p0c (hX.gr.below hV)
 rw [show s.norm.st = (n : Int) from hX.st] at h1
 exact h1))
 have KX : Hid (∀ V, Below w.heap.size w V -> V.cell? ⟨xb, 0, none⟩ = some (.pointer (some ⟨gb, 0, none⟩)) /\ V.cell? ⟨xb, 1, none⟩ = some (.slice (some ⟨sb, 0, none⟩) n n) /\ xb < V.heap.size) := hid (fun V hV => (hX.call hV).cells)
 clear hX hE hT hWD hgl hst hlb
 go_enter func92, ntmps92
 go_wp2_with fail
 refine HGL.out.mono ?_
 rintro e w1 ⟨rfl, hB1⟩
 have HB1 := hid hB1
 clear x0 x1 x2 HGL
 obtain ⟨x0, x1, x2⟩ := KX.out _ hB1
 clear hB1
 go_wp2_with fail
 refine (HGS.out _ HB1.out).mono ?_
 rintro e w2 ⟨rfl, hB2⟩
 have hb2 := HB1.out.trans (hB2.mono HB1.out.size)
 have hTB : w.heap.size <= w2.heap.size := hb2.size
 have HB2 := hid (hb2.alloc hb2.size (.cells (madeCells #[.slice none 0 0] n) 120))
 have HTM : Hid (WkT (w2.alloc (.cells (madeCells #[.slice none 0 0] n) 120)) (w2.heap.size + 1) w2.heap.size n lb WD 0 (.slice none 0 0) (fun p l => onceO G p (s.norm.outs (p : Int)) l)) := hid (WkT.made w2 n lb WD _)
 have hsz2 : (w2.alloc (.cells (madeCells #[.slice none 0 0] n) 120)).heap.size = w2.heap.size + 1 := by simp
 clear hB2 hb2 x0 x1 x2 HB1
 go_wp2_with fail
 obtain ⟨tb, htb⟩ : ∃ tb, tb = w2.heap.size := ⟨_, rfl⟩
 rw [<- htb] at HTM hTB hsz2 ⊢
 have HSZ2 := hid hsz2
 clear htb hsz2
 go_loopw [9, 11, 31] (fun _ _ v31 wr => ∃ i : Nat, v31 = .int .i64 i /\ i <= n /\ WkT wr wr.heap.size tb n lb WD i (.slice none 0 0) (fun p l => onceO G p (s.norm.outs (p : Int)) l) /\ Below w.heap.size w wr) (fun _ _ v31 _ => n - (intOf v31).toNat)
 case atStart => exact ⟨0, rfl, l4 _, by rw [HSZ2.out]; exact HTM.out, HB2.out⟩
 case round => (
 obtain ⟨i, rfl, hi, htab, hB⟩ := hrel
 have HTA := hid htab; have HB := hid hB
 have hws := hB.size
 have htl := htab.tlt
 clear htab hB HTM HSZ2 HB2
 by_cases hin : i < n
 · (
 have hiI : (i : Int) < (n : Int) := by omega
 have tc := HTA.out.here hin
 have tf := HTA.out.frozen i
 obtain ⟨wp, hwp⟩ : ∃ wp, wp = wr.setCell ⟨tb, i, none⟩ (.slice (some ⟨wr.heap.size, 0, none⟩) lb lb) := ⟨_, rfl⟩
 have hwps : wp.heap.size = wr.heap.size := by rw [hwp, size_setCell]
 have hto := HTA.out.open (.slice (some ⟨wr.heap.size, 0, none⟩) lb lb)
 rw [<- hwp] at hto
 have hto2 := hto.below ((Below.refl wr.heap.size wp).alloc (l6 hwps.symm) (.cells (madeCells #[.slice none 0 0] lb) 124))
 have hri := World.rowIs_made wp (.slice none 0 0) lb 124
 rw [hwps] at hri
 have hbi := (HB.out.setCell (p := ⟨tb, i, none⟩) hTB (.slice (some ⟨wr.heap.size, 0, none⟩) lb lb))
 rw [<- hwp] at hbi
 have hbi2 := hbi.alloc (by omega) (.cells (madeCells #[.slice none 0 0] lb) 124)
 have HTO := hid hto2; have HBI := hid hbi2
 have HAS := hid (WkAt.start (tb := tb) (WD := WD) (lb := lb) hri htl 1)
 have hsI : (wp.alloc (.cells (madeCells #[.slice none 0 0] lb) 124)).heap.size = wr.heap.size + 1 := by simp [hwps]
 have HWP := hid hwp
 clear hwps hto hto2 hri hbi hbi2 hwp
 go_upto_region 7 with fail
 rw [<- HWP.out]
 obtain ⟨Wi, hWi⟩ : ∃ Wi, Wi = wp.alloc (.cells (madeCells #[.slice none 0 0] lb) 124) := ⟨_, rfl⟩
 rw [<- hWi] at HTO HBI HAS hsI ⊢
 obtain ⟨rb, hrb⟩ : ∃ rb, rb = wr.heap.size := ⟨_, rfl⟩
 rw [<- hrb] at HTO HAS hsI htl ⊢
 have hwrb : w.heap.size <= rb := by omega
 have hdi := (Below.refl Wi.heap.size Wi).drew
 have KT : Hid (∀ V, Below rb Wi V -> WkT V rb tb n lb WD i (.slice (some ⟨rb, 0, none⟩) lb lb) (fun p l => onceO G p (s.norm.outs (p : Int)) l)) := hid (fun V hV => HTO.out.below hV)
 have KW : Hid (∀ V, Below rb Wi V -> Below w.heap.size w V) := hid (fun V hV => HBI.out.trans (hV.mono hwrb))
 have hrl := HAS.out.row.lt
 have HEI := hid (HE.out.2 Wi.drew (KW.out _ (hdi.mono (by omega))) i hin)
 have hti := (KT.out _ (hdi.mono (by omega)))
 have tc2 := hti.here hin
 have tl2 := hti.tlt
 have hro : ∀ V, Below Wi.drew.heap.size Wi.drew V -> V.cell? ⟨rb, 0, none⟩ = some (.slice none 0 0) /\ V.frozen? ⟨rb, 0, none⟩ = false /\ V.cell? ⟨tb, i, none⟩ = some (.slice (some ⟨rb, 0, none⟩) lb lb) /\ rb < V.heap.size /\ tb < V.heap.size := fun V hV => by (
 have h1 := (HAS.out.call hdi).call hV
 have h2 := h1.row.cell (show 0 < lb by omega)
 have h3 := KT.out V ((hdi.trans (hV.mono (by simp))).mono (by omega))
 exact ⟨by simpa [wkV] using h2, h1.row.frozen 0, h3.here hin, h1.row.lt, h3.tlt⟩)
 have HRO := hid hro; have HDI := hid hdi
 have hlb0 : (0 : Int) < (lb : Int) := by omega
 clear hWi hrb tc tf hti HTA HB hro hdi HWP
 go_region_with (first
   | (refine HEI.out.mono ?_; rintro e V ⟨rfl, hB3⟩; obtain ⟨r0, rf0, t0, rl0, tl0⟩ := HRO.out V hB3))
 all_goals (
 have hgw := (HE.out.1 i hin).lt
 have hbv : Below rb Wi V := (HDI.out.trans (hB3.mono (by simp))).mono (by omega)
 have hz := ((HAS.out.call HDI.out).call hB3).zero (((HE.out.1 i hin).below (KW.out _ hbv))) (show gbk i < tb by omega)
 have hz2 := hz.congr (R' := onceO G i ((s.norm.outs (i : Int)).take 0)) (fun l => by unfold updO onceO onceT; simp)
 have hb1 : Below rb Wi (V.setCell ⟨rb, 0, none⟩ (.slice (some ⟨gbk i, 0, none⟩) WD WD)) := hbv.setCell (l5 _) _
 obtain ⟨W1, hW1⟩ : ∃ W1, W1 = V.setCell ⟨rb, 0, none⟩ (.slice (some ⟨gbk i, 0, none⟩) WD WD) := ⟨_, rfl⟩
 rw [<- hW1] at hz2 hb1 ⊢
 have HZ := hid hz2; have HB1 := hid hb1
 have HEA := hid (p1e HX.out.gr (KW.out _ hb1) (i : Int))
 obtain ⟨x0, x1, x2⟩ := KX.out _ (KW.out _ hb1)
 clear hbv hz hz2 hb1 hW1 hB3 r0 rf0 t0 rl0 tl0 HRO HEI tc2 tl2 HAS
 go_wp2_with fail
 refine HEA.out.mono ?_
 rintro e wb ⟨⟨a2, c2, b2, off2, rfl, _, _, hss⟩, hBb⟩
 have HSS := hid hss
 have HZB := hid (HZ.out.call hBb)
 have HBB := hid (HB1.out.trans (hBb.mono (by have := HB1.out.size; omega)))
 obtain ⟨ol, hole⟩ : ∃ ol, ol = (s.norm.outs (i : Int)).length := ⟨_, rfl⟩
 have hole2 : ol <= 10000 := by have := q0c HX.out.right.norm (i : Int); omega
 rw [<- hole]
 have HOL := hid hole
 clear hss hBb hole HEA HZ x0 x1 x2 HB1
 go_wp2_with fail
 go_loopw [11, 54] (fun _ v54 wx => ∃ (r : Nat) (bk : Nat -> Nat), v54 = .int .i64 r /\ r <= ol /\ WkAt wx tb rb lb WD 1 (onceO G i ((s.norm.outs (i : Int)).take r)) bk /\ Below rb Wi wx) (fun _ v54 _ => ol - (intOf v54).toNat)
 case atStart => exact ⟨0, _, rfl, l4 _, HZB.out, HBB.out⟩
 case round => (
 obtain ⟨r, bk, rfl, hr, hat, hBx⟩ := hrel
 have HAT := hid hat; have HBX := hid hBx
 have hwx : rb < wr.heap.size := hat.row.lt
 clear hat hBx HZB HBB
 by_cases hro : r < ol
 · (
 obtain ⟨y, hy⟩ := j0a (xs := s.norm.outs (i : Int)) (i := r) (by rw [<- HOL.out]; exact hro)
 have hss := HSS.out.below (KW.out _ HBX.out) (l5 _)
 obtain rfl := hss.ad (by rw [<- HOL.out]; omega)
 have d0 := hss.s0 hy; have d1 := hss.s1 hy
 have dl := hss.lt (by rw [<- HOL.out]; omega)
 have hyr := j0g.1 (HX.out.right.norm.edges _ (j0s.1 (List.mem_of_getElem? hy)))
 have HSN : Hid ((s.norm.outs (i : Int)).take (r + 1) = (s.norm.outs (i : Int)).take r ++ [y]) := hid (take_snoc hy)
 obtain ⟨y1, y2⟩ := y
 simp only at hyr d0 d1
 obtain ⟨k, rfl⟩ := Int.eq_ofNat_of_zero_le hyr.2.2.1
 obtain ⟨u, rfl⟩ := Int.eq_ofNat_of_zero_le hyr.2.2.2.2.1
 have hun : u < n := by have : s.norm.st = (n : Int) := HX.out.st; omega
 have hkl : k < lb := by have : s.norm.lb = (lb : Int) := HLB.out; omega
 have hrI : (r : Int) < (ol : Int) := by omega
 have hkI : (k : Int) < (lb : Int) := by omega
 have HZN := hid (HAT.out.call ((Below.refl wr.heap.size wr).alloc (l5 _) (.cells #[.int .i64 (k : Int), .int .i64 (u : Int)] 115)))
 have HBZ := hid (HBX.out.alloc (by omega) (.cells #[.int .i64 (k : Int), .int .i64 (u : Int)] 115))
 have hA0 := heap_alloc_new wr (.cells #[.int .i64 (k : Int), .int .i64 (u : Int)] 115)
 have HA0 := hid hA0
 clear hss hy hyr hA0
 by_cases hk0 : k = 0
 · (
 subst hk0
 have HOS : Hid (∀ l, onceO G i ((s.norm.outs (i : Int)).take r) l = onceO G i ((s.norm.outs (i : Int)).take (r + 1)) l) := hid (fun l => by rw [HSN.out]; exact (j2h G i _ (show ((((0 : Nat) : Int), ((u : Nat) : Int)) : S).1 = 0 from rfl) l).symm)
 have HZ2 := hid (HZN.out.congr HOS.out)
 have e0 : ((0 : Nat) : Int) = 0 := rfl
 rw [e0] at d0 HZ2 HBZ
 clear HZN e0 hkI HA0
 go_wp2_with fail
 go_roundw
 case rel => exact ⟨r + 1, bk, by go_num, by omega, HZ2.out, HBZ.out⟩
 case measure => simp [intOf]; omega)
 · (
 have hk0b : ((k : Int) == 0) = false := by simp; omega
 have hk0I : ¬ (k : Int) = 0 := by omega
 go_upto_region 12 with fail
 obtain ⟨U, hU⟩ : ∃ U, U = wr.alloc (.cells #[.int .i64 (k : Int), .int .i64 (u : Int)] 115) := ⟨_, rfl⟩
 obtain ⟨ab, hab⟩ : ∃ ab, ab = wr.heap.size := ⟨_, rfl⟩
 have hA1 := HA0.out
 rw [<- hU, <- hab] at hA1
 rw [<- hU] at HZN HBZ ⊢
 rw [<- hab] at hwx ⊢
 have hUs : U.heap.size = ab + 1 := by rw [hU, hab]; simp
 have HA1 := hid hA1
 have HABT : Hid (∀ V, Below U.heap.size U V -> V.cell? ⟨ab, 0, none⟩ = some (.int .i64 (k : Int)) /\ V.cell? ⟨ab, 1, none⟩ = some (.int .i64 (u : Int)) /\ ab < V.heap.size /\ V.cell? ⟨tb, i, none⟩ = some (.slice (some ⟨rb, 0, none⟩) lb lb) /\ tb < V.heap.size) := hid (fun V hV => by (
 have h1 := (hV.block ab (by omega)).trans HA1.out
 have h2 := KT.out V (HBZ.out.trans (hV.mono (by omega)))
 exact ⟨by simp [World.cell?, h1], by simp [World.cell?, h1], by have := hV.size; omega, h2.here hin, h2.tlt⟩))
 obtain ⟨a0, a1, al, t0, tl0⟩ := HABT.out U (Below.refl _ _)
 have rl0 := HZN.out.row.lt
 have r0 := HZN.out.row.cell hkl
 have rf0 := HZN.out.row.frozen k
 have HBK : Hid (∀ F, onceO G i ((s.norm.outs (i : Int)).take r) k = some F -> bk k < ab) := hid (fun F hF => by rw [hab]; exact (HAT.out.bit k hkl F hF).lt)
 clear hU hab hA1 d0 d1 dl HA0 HAT HBX
 have HF0 : Hid (∀ l, onceO G i ((s.norm.outs (i : Int)).take (r + 1)) l = if l = k then some (orF (getO (onceO G i ((s.norm.outs (i : Int)).take r) k)) (G u)) else onceO G i ((s.norm.outs (i : Int)).take r) l) := hid (fun l => by rw [HSN.out]; exact j2g G i _ rfl hk0 l)
 obtain ⟨R, hR⟩ : ∃ R, R = onceO G i ((s.norm.outs (i : Int)).take r) := ⟨_, rfl⟩
 rw [<- hR] at HZN HF0 r0 HBK
 clear hR
 rcases hRk : R k with _ | F0
 case' none =>
   have heq := fun (w : World) => Lib.run_eql_slice_nil (P := prog) w 124 78 none 0 0 0 0 underlying124
   rw [hRk] at r0
   simp only [wkV] at r0
   go_quiet (fail)
   obtain ⟨U1, hU1⟩ : ∃ U1, U1 = U.drewN nq := ⟨_, rfl⟩
   have hbu : Below U.heap.size U U1.drew := by rw [hU1]; exact (j0q (Below.refl _ _)).drew
   have hus : U1.drew.heap.size = U.heap.size := by rw [hU1]; rfl
   obtain ⟨a0', a1', al', t0', tl0'⟩ := HABT.out _ hbu
   have hz1 := HZN.out.call hbu
   have rl1 := hz1.row.lt
   have r1 := hz1.row.cell hkl
   rw [hRk] at r1
   simp only [wkV] at r1
   rw [<- hU1]
   have HNR := hid (p0u U1.drew (n := Wn) (by omega))
   rw [<- HWD.out, hus] at HNR
   have HBU := hid hbu; have HUS := hid hus
   have KEEP3 : Hid (∀ V, Below U.heap.size U1.drew V -> Below U.heap.size U V /\ V.cell? ⟨rb, k, none⟩ = some (.slice none 0 0) /\ V.frozen? ⟨rb, k, none⟩ = false /\ rb < V.heap.size /\ V.cell? ⟨ab, 0, none⟩ = some (.int .i64 (k : Int)) /\ ab < V.heap.size /\ V.cell? ⟨tb, i, none⟩ = some (.slice (some ⟨rb, 0, none⟩) lb lb) /\ tb < V.heap.size) := hid (fun V hV => by
     have h1 := HBU.out.trans hV
     obtain ⟨q0, _, q2, q3, q4⟩ := HABT.out _ h1
     have h2 := HZN.out.call h1
     have h3 := h2.row.cell hkl
     rw [hRk] at h3
     exact ⟨h1, by simpa [wkV] using h3, h2.row.frozen k, h2.row.lt, q0, q2, q3, q4⟩)
   have KEEPS : Hid (∀ (V : World) (v : Value), (V.cell? ⟨ab, 0, none⟩ = some (.int .i64 (k : Int)) /\ ab < V.heap.size /\ V.cell? ⟨tb, i, none⟩ = some (.slice (some ⟨rb, 0, none⟩) lb lb) /\ tb < V.heap.size) -> ((V.setCell ⟨rb, k, none⟩ v).cell? ⟨ab, 0, none⟩ = some (.int .i64 (k : Int)) /\ ab < (V.setCell ⟨rb, k, none⟩ v).heap.size /\ (V.setCell ⟨rb, k, none⟩ v).cell? ⟨tb, i, none⟩ = some (.slice (some ⟨rb, 0, none⟩) lb lb) /\ tb < (V.setCell ⟨rb, k, none⟩ v).heap.size)) := hid (fun V v h => by
     rw [size_setCell, World.cell?_of_block (w := V) (a := ⟨ab, 0, none⟩) (Below.heap_setCell _ _ _ _ (by show ab ≠ rb; omega)), World.cell?_of_block (w := V) (a := ⟨tb, i, none⟩) (Below.heap_setCell _ _ _ _ (by show tb ≠ rb; omega))]
     exact h)
   clear hU1 hbu hus hz1 heq r0 rf0 a0 a1 t0
   go_upto_region 13 with fail
   refine wp_region_held_drew (S := (fun V => V.cell? ⟨ab, 0, none⟩ = some (.int .i64 (k : Int)) /\ ab < V.heap.size /\ V.cell? ⟨tb, i, none⟩ = some (.slice (some ⟨rb, 0, none⟩) lb lb) /\ tb < V.heap.size)) (by kernel_rfl) (by (try dsimp only); exact (KEEP3.out _ (Below.refl _ _)).2.2.2.2) (fun hHeld => ?_)
   refine qT 0 (v := ?_) ?_ ?_
   rotate_left
   · intro w hSw; (try dsimp only at hSw); go_simp; try with_reducible rfl
   try simp only [qga, qgz, Act.put, qgt, qgx, qgy]
   refine qT 1 (v := ?_) ?_ ?_
   rotate_left
   · intro w hSw; (try dsimp only at hSw); go_simp; try with_reducible rfl
   try simp only [qga, qgz, qgs, Act.put, qgt, qgx, qgy]
   refine qT 2 (v := ?_) ?_ ?_
   rotate_left
   · intro w hSw; (try dsimp only at hSw); go_simp; try with_reducible rfl
   try simp only [qga, qgz, qgs, Act.put, qgt, qgx, qgy]
   refine qT 3 (v := ?_) ?_ ?_
   rotate_left
   · intro w hSw; (try dsimp only at hSw); go_simp; try with_reducible rfl
   try simp only [qga, qgz, qgs, Act.put, qgt, qgx, qgy]
   refine qT 4 (v := ?_) ?_ ?_
   rotate_left
   · intro w hSw; (try dsimp only at hSw); go_simp; try with_reducible rfl
   try simp only [qga, qgz, qgs, Act.put, qgt, qgx, qgy]
   refine qT 5 (v := ?_) ?_ ?_
   rotate_left
   · intro w hSw; (try dsimp only at hSw); go_simp; try with_reducible rfl
   try simp only [qga, qgz, qgs, Act.put, qgt, qgx, qgy]
   refine qT 6 (v := ?_) ?_ ?_
   rotate_left
   · intro w hSw; (try dsimp only at hSw); go_simp; try with_reducible rfl
   try simp only [qga, qgz, qgs, Act.put, qgt, qgx, qgy]
   refine wpAnyH_ready (rs := [7]) (by kernel_rfl) (by simp) ?_
   refine AllReadyH.cons rfl (fun K hK => ?_) AllReadyH.nil
   go_simp
   go_at_call 133
   refine HNR.out.mono ?_
   rintro e V ⟨rfl, hnr, hB4, hs4⟩
   obtain ⟨hbv, v0, v1, v2, hS4⟩ := KEEP3.out V hB4
   refine hK.out _ _ (by (try dsimp only); exact hS4) (fun hHeld => ?_)
   clear hK K
   try simp only [qga, qgz, qgs, Act.put, qgt, qgx, qgy]
   refine qT 8 (v := ?_) ?_ ?_
   rotate_left
   · intro w hSw; (try dsimp only at hSw); go_simp; try with_reducible rfl
   try simp only [qga, qgz, qgs, Act.put, qgt, qgx, qgy]
   refine wpAnyH_ready (rs := [9]) (by kernel_rfl) (by simp) ?_
   refine AllReadyH.cons rfl (fun K hK => ?_) AllReadyH.nil
   go_simp
   refine hK.out _ _ (by (try dsimp only); exact KEEPS.out V _ hS4) (fun hHeld => ?_)
   clear hK K
   try simp only [qga, qgz, qgs, Act.put, qgt, qgx, qgy]
   refine wpAnyH_done (by kernel_rfl) ?_ _
   have hz3 := HZN.out.new hbv hnr (l5 _) (show 1 <= k by omega)
   rw [hUs] at hz3
   have hb3 : Below rb Wi (V.setCell ⟨rb, k, none⟩ (.slice (some ⟨ab + 1, 0, none⟩) WD WD)) := (HBZ.out.trans (hbv.mono (by omega))).setCell (l5 _) _
   have ha3 : (V.setCell ⟨rb, k, none⟩ (.slice (some ⟨ab + 1, 0, none⟩) WD WD)).heap[ab]? = some (.cells #[.int .i64 (k : Int), .int .i64 (u : Int)] 115 (0, 0)) := by
     rw [Below.heap_setCell _ _ _ _ (by show ab ≠ rb; omega), hbv.block ab (by omega)]; exact HA1.out
   obtain ⟨W14, hW14⟩ : ∃ W14, W14 = V.setCell ⟨rb, k, none⟩ (.slice (some ⟨ab + 1, 0, none⟩) WD WD) := ⟨_, rfl⟩
   obtain ⟨R14, hR14⟩ : ∃ R14, R14 = updO R k (some (fun _ => false)) := ⟨_, rfl⟩
   obtain ⟨bk14, hbk14⟩ : ∃ bk14, bk14 = updO bk k (ab + 1) := ⟨_, rfl⟩
   obtain ⟨F14, hF14⟩ : ∃ F14 : Nat -> Bool, F14 = fun _ => false := ⟨_, rfl⟩
   rw [<- hW14] at hz3 hb3 ha3 ⊢
   rw [<- hR14, <- hbk14] at hz3
   have HRF : Hid (R14 k = some F14) := hid (by rw [hR14, hF14, j0o])
   have HG14 : Hid (∀ l, updO R14 k (some (orF F14 (G u))) l = onceO G i ((s.norm.outs (i : Int)).take (r + 1)) l) := hid (fun l => by
     rw [HF0.out l]
     by_cases e : l = k
     · subst e; rw [j0o, if_pos rfl, hRk, hF14]; rfl
     · rw [j0n _ _ e, if_neg e, hR14, j0n _ _ e])
   have hbne : bk14 k ≠ ab := by rw [hbk14, j0o]; omega
   have HZ14 := hid hz3; have HB14 := hid hb3; have HA14 := hid ha3
   clear hz3 hb3 ha3 hW14 hR14 hbk14 hF14 hnr hB4 hs4 hbv v0 v1 v2 hS4 HBU HUS KEEP3 KEEPS HNR rl1 r1 a0' a1' al' t0' tl0'
 case' some =>
   have heq := fun (w : World) => Lib.run_eql_slice_nil (P := prog) w 124 78 (some ⟨bk k, 0, none⟩) WD WD 0 0 underlying124
   rw [hRk] at r0
   simp only [wkV] at r0
   go_quiet (fail)
   have hz3 := HZN.out.call (j0q (n := nq) (Below.refl U.heap.size U))
   have hb3 : Below rb Wi (U.drewN nq) := j0q HBZ.out
   have ha3 : (U.drewN nq).heap[ab]? = some (.cells #[.int .i64 (k : Int), .int .i64 (u : Int)] 115 (0, 0)) := HA1.out
   obtain ⟨W14, hW14⟩ : ∃ W14, W14 = U.drewN nq := ⟨_, rfl⟩
   obtain ⟨R14, hR14⟩ : ∃ R14, R14 = R := ⟨_, rfl⟩
   obtain ⟨bk14, hbk14⟩ : ∃ bk14, bk14 = bk := ⟨_, rfl⟩
   obtain ⟨F14, hF14⟩ : ∃ F14 : Nat -> Bool, F14 = F0 := ⟨_, rfl⟩
   rw [<- hW14] at hz3 hb3 ha3 ⊢
   rw [<- hR14, <- hbk14] at hz3
   have HRF : Hid (R14 k = some F14) := hid (by rw [hR14, hF14]; exact hRk)
   have HG14 : Hid (∀ l, updO R14 k (some (orF F14 (G u))) l = onceO G i ((s.norm.outs (i : Int)).take (r + 1)) l) := hid (fun l => by
     rw [HF0.out l]
     by_cases e : l = k
     · subst e; rw [j0o, if_pos rfl, hRk, hF14]; rfl
     · rw [j0n _ _ e, if_neg e, hR14])
   have hbne : bk14 k ≠ ab := by have := HBK.out F0 hRk; rw [hbk14]; omega
   have HZ14 := hid hz3; have HB14 := hid hb3; have HA14 := hid ha3
   clear hz3 hb3 ha3 hW14 hR14 hbk14 hF14 heq r0 rf0 a0 a1 t0
 all_goals (
 clear hRk HZN HBZ HABT HF0 hUs HA1 HBK
 have hd14 := (Below.refl W14.heap.size W14).drew
 have KEEP14 : Hid (∀ V, Below W14.heap.size W14 V -> V.cell? ⟨ab, 0, none⟩ = some (.int .i64 (k : Int)) /\ V.cell? ⟨ab, 1, none⟩ = some (.int .i64 (u : Int)) /\ ab < V.heap.size /\ V.cell? ⟨tb, i, none⟩ = some (.slice (some ⟨rb, 0, none⟩) lb lb) /\ tb < V.heap.size /\ V.cell? ⟨rb, k, none⟩ = some (.slice (some ⟨bk14 k, 0, none⟩) WD WD) /\ rb < V.heap.size) := hid (fun V hV => by (
 have h1 := (hV.block ab (l3.1 HA14.out).1).trans HA14.out
 have h2 := KT.out V (HB14.out.trans (hV.mono (by have := HZ14.out.row.lt; omega)))
 have h3 := HZ14.out.call hV
 have h4 := h3.row.cell hkl
 rw [HRF.out] at h4
 exact ⟨by simp [World.cell?, h1], by simp [World.cell?, h1], (l3.1 h1).1, h2.here hin, h2.tlt, by simpa [wkV] using h4, h3.row.lt⟩))
 have HEU := hid (HE.out.2 W14.drew (KW.out _ (HB14.out.trans (hd14.mono (by have := HZ14.out.row.lt; omega)))) u hun)
 have HJ : Hid (∀ V, Below W14.drew.heap.size W14.drew V -> Calls prog 134 #[.slice (some ⟨bk14 k, 0, none⟩) WD WD, .slice (some ⟨gbk u, 0, none⟩) WD WD] V fun e w' => e = .returned (.tuple #[]) /\ WkAt w' tb rb lb WD 1 (onceO G i ((s.norm.outs (i : Int)).take (r + 1))) bk14 /\ Below rb Wi w' /\ (w'.cell? ⟨ab, 0, none⟩ = some (.int .i64 (k : Int)) /\ w'.cell? ⟨ab, 1, none⟩ = some (.int .i64 (u : Int)) /\ ab < w'.heap.size /\ w'.cell? ⟨tb, i, none⟩ = some (.slice (some ⟨rb, 0, none⟩) lb lb) /\ tb < w'.heap.size /\ w'.cell? ⟨rb, k, none⟩ = some (.slice (some ⟨bk14 k, 0, none⟩) WD WD) /\ rb < w'.heap.size)) := hid (fun V hV => by (
 have h0 : Below W14.heap.size W14 V := (Below.refl W14.heap.size W14).drew.trans (hV.mono (by simp))
 have h1 := HZ14.out.call h0
 have hbr := h1.bit k hkl _ HRF.out
 have hbo := h1.own k hkl (by omega) _ HRF.out
 have hb2 : Below rb Wi V := HB14.out.trans (h0.mono (by have := HZ14.out.row.lt; omega))
 have hgu := (HE.out.1 u hun).below (KW.out _ hb2)
 have hgl := (HE.out.1 u hun).lt
 refine (v0s hbr hgu (by omega) (by omega)).mono ?_
 rintro e w' ⟨rfl, h2, h3⟩
 obtain ⟨q0, q1, q2, q3, q4, q5, q6⟩ := KEEP14.out V h0
 have c1 := h3.oth ab (Ne.symm hbne) q2
 have c2 := h3.oth tb (by omega) q4
 have c3 := h3.oth rb (by omega) q6
 exact ⟨rfl, (h1.join hkl (by omega) HRF.out h2 h3).congr HG14.out, hb2.trans (h3.bel rb (by omega)), (World.cell?_of_block (a := ⟨ab, 0, none⟩) c1).trans q0, (World.cell?_of_block (a := ⟨ab, 1, none⟩) c1).trans q1, by rw [h3.size]; exact q2, (World.cell?_of_block (a := ⟨tb, i, none⟩) c2).trans q3, by rw [h3.size]; exact q4, (World.cell?_of_block (a := ⟨rb, k, none⟩) c3).trans q5, by rw [h3.size]; exact q6⟩))
 clear HA14 HB14 HZ14 HRF HG14
 go_upto_region 14 with fail
 refine wp_region_held_drew (S := (fun V => V.cell? ⟨ab, 0, none⟩ = some (.int .i64 (k : Int)) /\ V.cell? ⟨ab, 1, none⟩ = some (.int .i64 (u : Int)) /\ ab < V.heap.size /\ V.cell? ⟨tb, i, none⟩ = some (.slice (some ⟨rb, 0, none⟩) lb lb) /\ tb < V.heap.size /\ V.cell? ⟨rb, k, none⟩ = some (.slice (some ⟨bk14 k, 0, none⟩) WD WD) /\ rb < V.heap.size)) (by kernel_rfl) (by (try dsimp only); exact KEEP14.out _ hd14) (fun hHeld => ?_)
 refine qT 0 (v := ?_) ?_ ?_
 rotate_left
 · intro w hSw; (try dsimp only at hSw); go_simp; try with_reducible rfl
 try simp only [qga, qgz, Act.put, qgt, qgx, qgy]
 refine qT 1 (v := ?_) ?_ ?_
 rotate_left
 · intro w hSw; (try dsimp only at hSw); go_simp; try with_reducible rfl
 try simp only [qga, qgz, qgs, Act.put, qgt, qgx, qgy]
 refine qT 2 (v := ?_) ?_ ?_
 rotate_left
 · intro w hSw; (try dsimp only at hSw); go_simp; try with_reducible rfl
 try simp only [qga, qgz, qgs, Act.put, qgt, qgx, qgy]
 refine qT 3 (v := ?_) ?_ ?_
 rotate_left
 · intro w hSw; (try dsimp only at hSw); go_simp; try with_reducible rfl
 try simp only [qga, qgz, qgs, Act.put, qgt, qgx, qgy]
 refine qT 4 (v := ?_) ?_ ?_
 rotate_left
 · intro w hSw; (try dsimp only at hSw); go_simp; try with_reducible rfl
 try simp only [qga, qgz, qgs, Act.put, qgt, qgx, qgy]
 refine qT 5 (v := ?_) ?_ ?_
 rotate_left
 · intro w hSw; (try dsimp only at hSw); go_simp; try with_reducible rfl
 try simp only [qga, qgz, qgs, Act.put, qgt, qgx, qgy]
 refine qT 6 (v := ?_) ?_ ?_
 rotate_left
 · intro w hSw; (try dsimp only at hSw); go_simp; try with_reducible rfl
 try simp only [qga, qgz, qgs, Act.put, qgt, qgx, qgy]
 refine qT 7 (v := ?_) ?_ ?_
 rotate_left
 · intro w hSw; (try dsimp only at hSw); go_simp; try with_reducible rfl
 try simp only [qga, qgz, qgs, Act.put, qgt, qgx, qgy]
 refine qT 8 (v := ?_) ?_ ?_
 rotate_left
 · intro w hSw; (try dsimp only at hSw); go_simp; try with_reducible rfl
 try simp only [qga, qgz, qgs, Act.put, qgt, qgx, qgy]
 refine qT 9 (v := ?_) ?_ ?_
 rotate_left
 · intro w hSw; (try dsimp only at hSw); go_simp; try with_reducible rfl
 try simp only [qga, qgz, qgs, Act.put, qgt, qgx, qgy]
 refine qT 10 (v := ?_) ?_ ?_
 rotate_left
 · intro w hSw; (try dsimp only at hSw); go_simp; try with_reducible rfl
 try simp only [qga, qgz, qgs, Act.put, qgt, qgx, qgy]
 refine wpAnyH_ready (rs := [11]) (by kernel_rfl) (by simp) ?_
 refine AllReadyH.cons rfl (fun K hK => ?_) AllReadyH.nil
 go_simp
 refine HEU.out.mono ?_
 rintro e V ⟨rfl, hB5⟩
 have hS5 := KEEP14.out V ((Below.refl W14.heap.size W14).drew.trans (hB5.mono (by simp)))
 refine hK.out _ _ (by (try dsimp only); exact hS5) (fun hHeld => ?_)
 clear hK K
 try simp only [qga, qgz, qgs, Act.put, qgt, qgx, qgy]
 refine wpAnyH_ready (rs := [12]) (by kernel_rfl) (by simp) ?_
 refine AllReadyH.cons rfl (fun K hK => ?_) AllReadyH.nil
 go_simp
 go_at_call 134
 refine (HJ.out V hB5).mono ?_
 rintro e V2 ⟨rfl, hat2, hbel2, hS6⟩
 refine hK.out _ _ (by (try dsimp only); exact hS6) (fun hHeld => ?_)
 clear hK K
 try simp only [qga, qgz, qgs, Act.put, qgt, qgx, qgy]
 refine wpAnyH_done (by kernel_rfl) ?_ _
 have HA9 := hid hat2; have HB9 := hid hbel2
 clear hat2 hbel2 hB5 hS5 hS6 HJ HEU KEEP14 hd14
 go_wp2_with fail
 go_roundw
 case rel => exact ⟨r + 1, bk14, by go_num, by omega, HA9.out, HB9.out⟩
 case measure => simp [intOf]; omega)))
 · (
 obtain rfl : r = ol := by omega
 have hdone := HAT.out.done
 have htk : (s.norm.outs (i : Int)).take r = s.norm.outs (i : Int) := by rw [List.take_of_length_le]; have := HOL.out; omega
 rw [htk] at hdone
 have hcl := (KT.out _ HBX.out).close hdone (by omega)
 have HCL := hid (hcl.congr (T' := fun p l => onceO G p (s.norm.outs (p : Int)) l) (fun p _ => by (
 by_cases e : p = i
 · subst e; rw [j0o]
 · rw [j0n _ _ e])))
 have HBN := hid (KW.out _ HBX.out)
 clear hdone htk hcl
 go_wp2_with fail
 go_roundw
 case rel => exact ⟨i + 1, by go_num, by omega, HCL.out, HBN.out⟩
 case measure => simp [intOf]; omega))))
 · (
 obtain rfl : n = i := by omega
 obtain ⟨Wa, hWa⟩ : ∃ Wa, Wa = wr := ⟨_, rfl⟩
 subst hWa
 have HE1 : Hid (∀ V, Below Wa.heap.size Wa V -> WkT V Wa.heap.size tb n lb WD n (.slice none 0 0) (fun p l => onceO G p (s.norm.outs (p : Int)) l)) := hid (fun V hV => HTA.out.below hV)
 obtain ⟨E, hE⟩ : ∃ E : Nat -> Nat -> Option (Nat -> Bool), E = fun p l => onceO G p (s.norm.outs (p : Int)) l := ⟨_, rfl⟩
 have HEO : Hid (∀ m l, l < lb -> OnceOk s G m (l : Int) (E m l)) := hid (fun m l _ => by
   rw [hE]
   exact z2h (g := s.norm) (fun p l t => by rw [j0s]; exact p0r) HX.out.right.norm G m l)
 rw [<- hE] at HE1
 clear hE htl
 obtain ⟨x0, x1, x2⟩ := KX.out _ HB.out
 go_wp2_with fail
 refine (HGS.out _ HB.out).mono ?_
 rintro e w2 ⟨rfl, hB2⟩
 have HB3 := hid (hB2.alloc hB2.size (.cells (madeCells #[.slice none 0 0] n) 120))
 have HTM : Hid (WkT (w2.alloc (.cells (madeCells #[.slice none 0 0] n) 120)) (w2.heap.size + 1) w2.heap.size n lb WD 0 (.slice none 0 0) (fun p l => outO E (idsN (F p) n) l)) := hid (WkT.made w2 n lb WD _)
 have hsz2 : (w2.alloc (.cells (madeCells #[.slice none 0 0] n) 120)).heap.size = w2.heap.size + 1 := by simp
 have hUB : Wa.heap.size <= w2.heap.size := hB2.size
 clear hB2 x0 x1 x2
 go_wp2_with fail
 obtain ⟨ub, hub⟩ : ∃ ub, ub = w2.heap.size := ⟨_, rfl⟩
 rw [<- hub] at HTM hUB hsz2 ⊢
 have HSZ2 := hid hsz2
 clear hub hsz2
 go_loopw [13, 15, 16, 17, 102] (fun _ _ _ _ v102 wr => ∃ i : Nat, v102 = .int .i64 i /\ i <= n /\ WkT wr wr.heap.size ub n lb WD i (.slice none 0 0) (fun p l => outO E (idsN (F p) n) l) /\ Below Wa.heap.size Wa wr) (fun _ _ _ _ v102 _ => n - (intOf v102).toNat)
 case atStart => exact ⟨0, rfl, l4 _, by rw [HSZ2.out]; exact HTM.out, HB3.out⟩
 case round => (
 obtain ⟨i, rfl, hi, htab, hB⟩ := hrel
 have HTA2 := hid htab; have HBA := hid hB
 have hwsA := hB.size
 have htl := htab.tlt
 clear htab hB HTM HSZ2 HB3
 by_cases hin : i < n
 · (
 have hiI : (i : Int) < (n : Int) := by omega
 have tc := HTA2.out.here hin
 have tf := HTA2.out.frozen i
 obtain ⟨wp, hwp⟩ : ∃ wp, wp = wr.setCell ⟨ub, i, none⟩ (.slice (some ⟨wr.heap.size, 0, none⟩) lb lb) := ⟨_, rfl⟩
 have hwps : wp.heap.size = wr.heap.size := by rw [hwp, size_setCell]
 have hto := HTA2.out.open (.slice (some ⟨wr.heap.size, 0, none⟩) lb lb)
 rw [<- hwp] at hto
 have hto2 := hto.below ((Below.refl wr.heap.size wp).alloc (l6 hwps.symm) (.cells (madeCells #[.slice none 0 0] lb) 124))
 have hri := World.rowIs_made wp (.slice none 0 0) lb 124
 rw [hwps] at hri
 have hbi := (HBA.out.setCell (p := ⟨ub, i, none⟩) hUB (.slice (some ⟨wr.heap.size, 0, none⟩) lb lb))
 rw [<- hwp] at hbi
 have hbi2 := hbi.alloc (by omega) (.cells (madeCells #[.slice none 0 0] lb) 124)
 have HTO := hid hto2; have HBI := hid hbi2
 have HAS := hid (WkAt.start (tb := ub) (WD := WD) (lb := lb) hri htl 0)
 have hsI : (wp.alloc (.cells (madeCells #[.slice none 0 0] lb) 124)).heap.size = wr.heap.size + 1 := by simp [hwps]
 have HWP := hid hwp
 clear hwps hto hto2 hri hbi hbi2 hwp
 go_upto_region 22 with fail
 rw [<- HWP.out]
 obtain ⟨Wi, hWi⟩ : ∃ Wi, Wi = wp.alloc (.cells (madeCells #[.slice none 0 0] lb) 124) := ⟨_, rfl⟩
 rw [<- hWi] at HTO HBI HAS hsI ⊢
 obtain ⟨rb, hrb⟩ : ∃ rb, rb = wr.heap.size := ⟨_, rfl⟩
 rw [<- hrb] at HTO HAS hsI htl ⊢
 have hwrb : Wa.heap.size <= rb := by omega
 have KT : Hid (∀ V, Below rb Wi V -> WkT V rb ub n lb WD i (.slice (some ⟨rb, 0, none⟩) lb lb) (fun p l => outO E (idsN (F p) n) l)) := hid (fun V hV => HTO.out.below hV)
 have KA : Hid (∀ V, Below rb Wi V -> Below Wa.heap.size Wa V) := hid (fun V hV => HBI.out.trans (hV.mono hwrb))
 have KW : Hid (∀ V, Below rb Wi V -> Below w.heap.size w V) := hid (fun V hV => HB.out.trans ((KA.out V hV).mono hws))
 obtain ⟨x0, x1, x2⟩ := KX.out _ (KW.out _ (Below.refl _ _))
 obtain ⟨lk, hlk, hlkl, hbitr⟩ := ((HX.out.call (KW.out _ (Below.refl _ _))).sil).at hin (List.mem_range.2 hin)
 have hsbl := ((HX.out.call (KW.out _ (Below.refl _ _))).sil).sblt
 have HFR : Hid (∀ x, F i x = true -> x < n) := hid (fun x hx => ((HX.out.tr i hin x).1 hx).ltW HX.out.right HX.out.st hin)
 have hids := z0i hbitr (by have := p0g hn1; omega) (HT.out.below (KW.out _ (Below.refl _ _)))
 unfold IdsW at hids
 rw [z0j HFR.out] at hids
 have HID := hid hids
 clear hWi hrb tc tf HTA2 HBA HWP hids hbitr
 go_wp2_with fail
 refine HID.out.mono ?_
 rintro e wq ⟨v, rfl, hown, hBq⟩
 obtain ⟨L, hL⟩ : ∃ L, L = idsN (F i) n := ⟨_, rfl⟩
 rw [<- hL] at hown
 obtain ⟨la, lc, lb2, rfl, _, _, hls, hlb2⟩ := j0d p0v hown
 rw [j0p]
 have hLl : L.length <= n := by rw [hL]; exact p0q _ _
 have HLM : Hid (∀ m, m ∈ L -> m < n) := hid (fun m hm => by rw [hL] at hm; exact (q0e.1 hm).1)
 have HLE := hid hL
 have hrq : rb < wq.heap.size := by have := hBq.size; omega
 have HQ := hid (hBq.mono (show rb <= Wi.heap.size by omega))
 have HSQ := hid (HAS.out.call hBq)
 have HLS := hid hls
 have HLB2 : Hid (0 < L.length -> rb < lb2 /\ lb2 < wq.heap.size) := hid (fun h => by
   have h1 := hlb2 (by rw [j0p]; exact h); have h2 := hls.lt (by rw [j0p]; exact h); omega)
 obtain ⟨ml, hml⟩ : ∃ ml, ml = L.length := ⟨_, rfl⟩
 rw [<- hml] at hLl ⊢
 have HML := hid hml
 clear hown hBq hls hlb2 hL hml HID HAS x0 x1 x2 hlk hlkl hsbl
 go_wp2_with fail
 go_loopw [15, 16, 17, 119] (fun _ _ _ v119 wx => ∃ (r : Nat) (bk : Nat -> Nat), v119 = .int .i64 r /\ r <= ml /\ WkAt wx ub rb lb WD 0 (outO E (L.take r)) bk /\ Below rb Wi wx /\ (∀ b, b ≠ rb -> b < wq.heap.size -> wx.heap[b]? = wq.heap[b]?) /\ wq.heap.size <= wx.heap.size /\ (∀ l, l < lb -> ∀ F, outO E (L.take r) l = some F -> wq.heap.size <= bk l)) (fun _ _ _ v119 _ => ml - (intOf v119).toNat)
 case atStart => exact ⟨0, _, rfl, l4 _, HSQ.out.congr (fun l => by simp [outO]), HQ.out, fun _ _ _ => rfl, l5 _, fun l _ F hF => by simp [outO] at hF⟩
 case round => (
 obtain ⟨r, bk, rfl, hr, hat, hBx, hoth, hqs, hlow⟩ := hrel
 have HAT := hid hat; have HBX := hid hBx; have HOT := hid hoth; have HLO := hid hlow
 clear hat hBx hoth hlow HSQ HQ
 by_cases hro : r < ml
 · (
 obtain ⟨m, hm⟩ := j0a (xs := L) (i := r) (by rw [<- HML.out]; exact hro)
 have hmn := HLM.out m (List.mem_of_getElem? hm)
 have hl2 := HLB2.out (by rw [<- HML.out]; omega)
 obtain rfl := HLS.out.ad (by rw [j0p, <- HML.out]; omega)
 have l0 := HLS.out.ci (i := r) (x := (m : Int)) (by unfold intsOf; rw [List.getElem?_map, hm]; rfl)
 simp only [Nat.zero_add] at l0
 have l1 : wr.cell? ⟨lb2, r, none⟩ = some (.int .i64 (m : Int)) := by
   rw [World.cell?_of_block (w := wq) (a := ⟨lb2, r, none⟩) (HOT.out lb2 (by omega) hl2.2)]; exact l0
 have l2 : lb2 < wr.heap.size := by omega
 obtain ⟨mb, hmb, hmr⟩ := (HE1.out _ (KA.out _ HBX.out)).at (p := m) hmn hmn
 have htb2 := (HE1.out _ (KA.out _ HBX.out)).tlt
 have hrI : (r : Int) < (ml : Int) := by omega
 have hmI : (m : Int) < (n : Int) := by omega
 have HM := hid hm; have HMR := hid hmr
 have KMR : Hid (∀ V, Below rb Wi V -> WkR V tb Wa.heap.size mb lb WD (E m)) := hid (fun V hV => by (
 obtain ⟨mb', h1, h2⟩ := (HE1.out _ (KA.out _ hV)).at (p := m) hmn hmn
 have h3 : V.cell? ⟨tb, m, none⟩ = wr.cell? ⟨tb, m, none⟩ := by
   have ht := (HE1.out Wa (Below.refl _ _)).tlt
   rw [World.cell?_of_block (w := Wa) (a := ⟨tb, m, none⟩) ((KA.out _ hV).block tb ht), World.cell?_of_block (w := Wa) (a := ⟨tb, m, none⟩) ((KA.out _ HBX.out).block tb ht)]
 rw [h3, hmb] at h1
 simp only [Option.some.injEq, Value.slice.injEq, Addr.mk.injEq, and_true] at h1
 rw [h1]; exact h2))
 clear hm hmr l0
 go_wp2_with fail
 go_loopw [16, 17, 128] (fun _ _ v128 wx => ∃ (j : Nat) (bk : Nat -> Nat), v128 = .int .i64 j /\ j <= lb /\ WkAt wx ub rb lb WD 0 (fun l => if l < j then uniO (outO E (L.take r) l) (E m l) else outO E (L.take r) l) bk /\ Below rb Wi wx /\ (∀ b, b ≠ rb -> b < wq.heap.size -> wx.heap[b]? = wq.heap[b]?) /\ wq.heap.size <= wx.heap.size /\ (∀ l, l < lb -> ∀ F, (if l < j then uniO (outO E (L.take r) l) (E m l) else outO E (L.take r) l) = some F -> wq.heap.size <= bk l)) (fun _ _ v128 _ => lb - (intOf v128).toNat)
 case atStart => exact ⟨0, bk, rfl, l4 _, HAT.out.congr (fun l => by simp), HBX.out, HOT.out, hqs, fun l hl F hF => HLO.out l hl F (by simpa using hF)⟩
 case round => (
 obtain ⟨j, bk, rfl, hj, hat, hBx, hoth, hqs, hlow⟩ := hrel
 have HAT := hid hat; have HBX := hid hBx; have HOT := hid hoth; have HLO := hid hlow
 clear hat hBx hoth hlow
 by_cases hjl : j < lb
 · (
 have hjI : (j : Int) < (lb : Int) := by omega
 obtain ⟨bm, hbm, hbmr⟩ := (KMR.out _ HBX.out).at hjl
 have hmbl : mb < wr.heap.size := by have h1 := (KMR.out _ HBX.out).lt; have h2 := (KA.out _ HBX.out).size; omega
 rcases hEm : E m j with _ | Fm
 · (
 have heq := fun (w : World) => Lib.run_eql_slice_nil (P := prog) w 124 78 none 0 0 0 0 underlying124
 rw [hEm] at hbm
 simp only [wkV] at hbm
 have HA2 := hid (HAT.out.congr (R' := fun l => if l < j + 1 then uniO (outO E (L.take r) l) (E m l) else outO E (L.take r) l) (fun l => by (
 by_cases e : l = j
 · subst e; rw [if_neg (by omega), if_pos (by omega), hEm, z1s]
 · by_cases e2 : l < j
   · rw [if_pos e2, if_pos (by omega)]
   · rw [if_neg e2, if_neg (by omega)])))
 have HL2 : Hid (∀ l, l < lb -> ∀ F, (if l < j + 1 then uniO (outO E (L.take r) l) (E m l) else outO E (L.take r) l) = some F -> wq.heap.size <= bk l) := hid (fun l hl F hF => HLO.out l hl F (by (
 rw [<- hF]
 by_cases e : l = j
 · subst e; rw [if_neg (by omega), if_pos (by omega), hEm, z1s]
 · by_cases e2 : l < j
   · rw [if_pos e2, if_pos (by omega)]
   · rw [if_neg e2, if_neg (by omega)])))
 clear hbmr hEm
 go_wp2_with fail
 go_roundw
 case rel => exact ⟨j + 1, bk, by go_num, by omega, HA2.out, HBX.out, HOT.out, hqs, HL2.out⟩
 case measure => simp [intOf]; omega)
 · (
 have heqm := fun (w : World) => Lib.run_eql_slice_nil (P := prog) w 124 78 (some ⟨bm, 0, none⟩) WD WD 0 0 underlying124
 rw [hEm] at hbm
 simp only [wkV] at hbm
 obtain ⟨hbit, hbml⟩ := hbmr Fm hEm
 have HBIT := hid hbit
 have t0 := (KT.out _ HBX.out).here hin
 have tl0 := (KT.out _ HBX.out).tlt
 have r0 := HAT.out.row.cell hjl
 rw [if_neg (by omega)] at r0
 have rl0 := HAT.out.row.lt
 obtain ⟨Rr, hRr⟩ : ∃ Rr, Rr = outO E (L.take r) := ⟨_, rfl⟩
 rw [<- hRr] at HAT HLO r0
 have HRr := hid hRr
 have hbmA : bm < rb := by omega
 clear hbit hRr hbmr
 rcases hRk : Rr j with _ | F0
 case' none =>
   have heq := fun (w : World) => Lib.run_eql_slice_nil (P := prog) w 124 78 none 0 0 0 0 underlying124
   rw [hRk] at r0
   simp only [wkV] at r0
   have HNR := hid (p0u wr.drew (n := Wn) (by omega))
   rw [<- HWD.out, show wr.drew.heap.size = wr.heap.size from rfl] at HNR
   have HBD := hid (Below.refl wr.heap.size wr).drew
   have KEEP3 : Hid (∀ V, Below wr.heap.size wr.drew V -> Below wr.heap.size wr V /\ V.cell? ⟨rb, j, none⟩ = some (.slice none 0 0) /\ V.frozen? ⟨rb, j, none⟩ = false /\ rb < V.heap.size /\ V.cell? ⟨ub, i, none⟩ = some (.slice (some ⟨rb, 0, none⟩) lb lb) /\ ub < V.heap.size) := hid (fun V hV => by
     have h1 := HBD.out.trans hV
     have h2 := HAT.out.call h1
     have h3 := h2.row.cell hjl
     rw [if_neg (by omega), hRk] at h3
     have h4 := KT.out V (HBX.out.trans (h1.mono (by omega)))
     exact ⟨h1, by simpa [wkV] using h3, h2.row.frozen j, h2.row.lt, h4.here hin, h4.tlt⟩)
   have KEEPS : Hid (∀ (V : World) (v : Value), (V.cell? ⟨ub, i, none⟩ = some (.slice (some ⟨rb, 0, none⟩) lb lb) /\ ub < V.heap.size) -> ((V.setCell ⟨rb, j, none⟩ v).cell? ⟨ub, i, none⟩ = some (.slice (some ⟨rb, 0, none⟩) lb lb) /\ ub < (V.setCell ⟨rb, j, none⟩ v).heap.size)) := hid (fun V v h => by
     rw [size_setCell, World.cell?_of_block (w := V) (a := ⟨ub, i, none⟩) (Below.heap_setCell _ _ _ _ (by show ub ≠ rb; omega))]
     exact h)
   go_upto_region 30 with fail
   refine wp_region_held_drew (S := (fun V => V.cell? ⟨ub, i, none⟩ = some (.slice (some ⟨rb, 0, none⟩) lb lb) /\ ub < V.heap.size)) (by kernel_rfl) (by (try dsimp only); exact (KEEP3.out _ (Below.refl _ _)).2.2.2.2) (fun hHeld => ?_)
   refine qT 0 (v := ?_) ?_ ?_
   rotate_left
   · intro w hSw; (try dsimp only at hSw); go_simp; try with_reducible rfl
   try simp only [qga, qgz, Act.put, qgt, qgx, qgy]
   refine qT 1 (v := ?_) ?_ ?_
   rotate_left
   · intro w hSw; (try dsimp only at hSw); go_simp; try with_reducible rfl
   try simp only [qga, qgz, qgs, Act.put, qgt, qgx, qgy]
   refine qT 2 (v := ?_) ?_ ?_
   rotate_left
   · intro w hSw; (try dsimp only at hSw); go_simp; try with_reducible rfl
   try simp only [qga, qgz, qgs, Act.put, qgt, qgx, qgy]
   refine qT 3 (v := ?_) ?_ ?_
   rotate_left
   · intro w hSw; (try dsimp only at hSw); go_simp; try with_reducible rfl
   try simp only [qga, qgz, qgs, Act.put, qgt, qgx, qgy]
   refine qT 4 (v := ?_) ?_ ?_
   rotate_left
   · intro w hSw; (try dsimp only at hSw); go_simp; try with_reducible rfl
   try simp only [qga, qgz, qgs, Act.put, qgt, qgx, qgy]
   refine qT 5 (v := ?_) ?_ ?_
   rotate_left
   · intro w hSw; (try dsimp only at hSw); go_simp; try with_reducible rfl
   try simp only [qga, qgz, qgs, Act.put, qgt, qgx, qgy]
   refine wpAnyH_ready (rs := [6]) (by kernel_rfl) (by simp) ?_
   refine AllReadyH.cons rfl (fun K hK => ?_) AllReadyH.nil
   go_simp
   go_at_call 133
   refine HNR.out.mono ?_
   rintro e V ⟨rfl, hnr, hB4, hs4⟩
   obtain ⟨hbv, v0, v1, v2, hS4⟩ := KEEP3.out V hB4
   refine hK.out _ _ (by (try dsimp only); exact hS4) (fun hHeld => ?_)
   clear hK K
   try simp only [qga, qgz, qgs, Act.put, qgt, qgx, qgy]
   refine qT 7 (v := ?_) ?_ ?_
   rotate_left
   · intro w hSw; (try dsimp only at hSw); go_simp; try with_reducible rfl
   try simp only [qga, qgz, qgs, Act.put, qgt, qgx, qgy]
   refine wpAnyH_ready (rs := [8]) (by kernel_rfl) (by simp) ?_
   refine AllReadyH.cons rfl (fun K hK => ?_) AllReadyH.nil
   go_simp
   refine hK.out _ _ (by (try dsimp only); exact KEEPS.out V _ hS4) (fun hHeld => ?_)
   clear hK K
   try simp only [qga, qgz, qgs, Act.put, qgt, qgx, qgy]
   refine wpAnyH_done (by kernel_rfl) ?_ _
   have hz3 := HAT.out.new hbv hnr (l5 _) (l4 j)
   have hb3 : Below rb Wi (V.setCell ⟨rb, j, none⟩ (.slice (some ⟨wr.heap.size, 0, none⟩) WD WD)) := (HBX.out.trans (hbv.mono (by omega))).setCell (l5 _) _
   have ho3 : ∀ b, b ≠ rb -> b < wq.heap.size -> (V.setCell ⟨rb, j, none⟩ (.slice (some ⟨wr.heap.size, 0, none⟩) WD WD)).heap[b]? = wq.heap[b]? := fun b hb hbl => by
     rw [Below.heap_setCell _ _ _ _ hb, hbv.block b (by omega)]; exact HOT.out b hb hbl
   have hs3 : wq.heap.size <= (V.setCell ⟨rb, j, none⟩ (.slice (some ⟨wr.heap.size, 0, none⟩) WD WD)).heap.size := by rw [size_setCell]; have := hbv.size; omega
   obtain ⟨W14, hW14⟩ : ∃ W14, W14 = V.setCell ⟨rb, j, none⟩ (.slice (some ⟨wr.heap.size, 0, none⟩) WD WD) := ⟨_, rfl⟩
   obtain ⟨R14, hR14⟩ : ∃ R14, R14 = updO (fun l => if l < j then uniO (Rr l) (E m l) else Rr l) j (some (fun _ => false)) := ⟨_, rfl⟩
   obtain ⟨bk14, hbk14⟩ : ∃ bk14, bk14 = updO bk j wr.heap.size := ⟨_, rfl⟩
   obtain ⟨F14, hF14⟩ : ∃ F14 : Nat -> Bool, F14 = fun _ => false := ⟨_, rfl⟩
   rw [<- hW14] at hz3 hb3 ho3 hs3 ⊢
   rw [<- hR14, <- hbk14] at hz3
   have HRF : Hid (R14 j = some F14) := hid (by rw [hR14, hF14, j0o])
   have HG14 : Hid (∀ l, updO R14 j (some (orF F14 Fm)) l = if l < j + 1 then uniO (Rr l) (E m l) else Rr l) := hid (fun l => by
     by_cases e : l = j
     · subst e; rw [j0o, if_pos (by omega), hEm, hRk, hF14, j1p]; rfl
     · rw [j0n _ _ e, hR14, j0n _ _ e]
       by_cases e2 : l < j
       · rw [if_pos e2, if_pos (by omega)]
       · rw [if_neg e2, if_neg (by omega)])
   have HLO14 : Hid (∀ l, l < lb -> ∀ F, R14 l = some F -> wq.heap.size <= bk14 l) := hid (fun l hl F hF => by
     by_cases e : l = j
     · subst e; rw [hbk14, j0o]; omega
     · rw [hR14, j0n _ _ e] at hF
       rw [hbk14, j0n _ _ e]
       exact HLO.out l hl F hF)
   have HZ14 := hid hz3; have HB14 := hid hb3; have HO14 := hid ho3; have HS14 := hid hs3
   clear hz3 hb3 ho3 hs3 hW14 hR14 hbk14 hF14 hnr hB4 hs4 hbv v0 v1 v2 hS4 KEEP3 KEEPS HNR HBD heq
 case' some =>
   have heq := fun (w : World) => Lib.run_eql_slice_nil (P := prog) w 124 78 (some ⟨bk j, 0, none⟩) WD WD 0 0 underlying124
   rw [hRk] at r0
   simp only [wkV] at r0
   go_upto_region 31 with fail
   obtain ⟨W14, hW14⟩ : ∃ W14, W14 = wr := ⟨_, rfl⟩
   obtain ⟨R14, hR14⟩ : ∃ R14, R14 = fun l => if l < j then uniO (Rr l) (E m l) else Rr l := ⟨_, rfl⟩
   obtain ⟨bk14, hbk14⟩ : ∃ bk14, bk14 = bk := ⟨_, rfl⟩
   obtain ⟨F14, hF14⟩ : ∃ F14 : Nat -> Bool, F14 = F0 := ⟨_, rfl⟩
   have HRF : Hid (R14 j = some F14) := hid (by rw [hR14, hF14]; simp only; rw [if_neg (by omega)]; exact hRk)
   have HG14 : Hid (∀ l, updO R14 j (some (orF F14 Fm)) l = if l < j + 1 then uniO (Rr l) (E m l) else Rr l) := hid (fun l => by
     by_cases e : l = j
     · subst e; rw [j0o, if_pos (by omega), hEm, hRk, hF14, j1p]; rfl
     · rw [j0n _ _ e, hR14]
       simp only
       by_cases e2 : l < j
       · rw [if_pos e2, if_pos (by omega)]
       · rw [if_neg e2, if_neg (by omega)])
   have HLO14 : Hid (∀ l, l < lb -> ∀ F, R14 l = some F -> wq.heap.size <= bk14 l) := hid (by rw [hR14, hbk14]; exact HLO.out)
   have HZ14 : Hid (WkAt W14 ub rb lb WD 0 R14 bk14) := hid (by rw [hW14, hR14, hbk14]; exact HAT.out)
   have HB14 : Hid (Below rb Wi W14) := hid (by rw [hW14]; exact HBX.out)
   have HO14 : Hid (∀ b, b ≠ rb -> b < wq.heap.size -> W14.heap[b]? = wq.heap[b]?) := hid (by rw [hW14]; exact HOT.out)
   have HS14 : Hid (wq.heap.size <= W14.heap.size) := hid (by rw [hW14]; exact hqs)
   rw [<- hW14]
   clear hW14 hR14 hbk14 hF14 heq
 all_goals (
 have t1 := (KT.out _ HB14.out).here hin
 have tl1 := (KT.out _ HB14.out).tlt
 have r1 := HZ14.out.row.cell hjl
 rw [HRF.out] at r1
 simp only [wkV] at r1
 have rl1 := HZ14.out.row.lt
 have hbo := HZ14.out.own j hjl (l4 _) _ HRF.out
 have hlow := HLO14.out j hjl _ HRF.out
 have hm14 : BitRow W14 bm WD Fm := by (
 obtain ⟨bm', q1, q2⟩ := (KMR.out _ HB14.out).at hjl
 obtain ⟨bm'', q3, q4⟩ := (KMR.out _ HBX.out).at hjl
 have hmbe := (KMR.out _ HB14.out).lt
 have hq5 : W14.cell? ⟨mb, j, none⟩ = wr.cell? ⟨mb, j, none⟩ := by
   have hA := (KMR.out Wi (Below.refl _ _)).lt
   rw [World.cell?_of_block (w := Wi) (a := ⟨mb, j, none⟩) (HB14.out.block mb (by omega)), World.cell?_of_block (w := Wi) (a := ⟨mb, j, none⟩) (HBX.out.block mb (by omega))]
 rw [hq5, hbm, hEm] at q1
 simp only [wkV, Option.some.injEq, Value.slice.injEq, Addr.mk.injEq, and_true] at q1
 rw [q1]
 exact (q2 Fm hEm).1)
 have HJO := hid (v0s (HZ14.out.bit j hjl _ HRF.out) hm14 (by omega) (by omega))
 clear hm14 hRk t0 tl0 r0 rl0 HBIT HAT HBX HOT HLO hqs hbm
 go_wp2_with fail
 refine HJO.out.mono ?_
 rintro e w5 ⟨rfl, hrow5, hch5⟩
 have ha5 := (HZ14.out.join hjl (l4 _) HRF.out hrow5 hch5).congr HG14.out
 have hb5 := HB14.out.trans (hch5.bel rb (by omega))
 have ho5 : ∀ b, b ≠ rb -> b < wq.heap.size -> w5.heap[b]? = wq.heap[b]? := fun b hb hbl => by
   rw [hch5.oth b (by omega) (by have := HS14.out; omega)]; exact HO14.out b hb hbl
 have hs5 : wq.heap.size <= w5.heap.size := by rw [hch5.size]; exact HS14.out
 have hl5 : ∀ l, l < lb -> ∀ F, (if l < j + 1 then uniO (outO E (L.take r) l) (E m l) else outO E (L.take r) l) = some F -> wq.heap.size <= bk14 l := fun l hl F hF => by (
 rw [<- HRr.out] at hF
 rw [<- HG14.out l] at hF
 by_cases e : l = j
 · subst e; exact hlow
 · rw [j0n _ _ e] at hF; exact HLO14.out l hl F hF)
 rw [HRr.out] at ha5
 have HA5 := hid ha5; have HB5 := hid hb5; have HO5 := hid ho5; have HL5 := hid hl5
 clear ha5 hb5 ho5 hl5 hrow5 hch5 HJO HZ14 HB14 HO14 HLO14 HRF HG14 HRr t1 tl1 r1 rl1 hbo hlow
 go_wp2_with fail
 go_roundw
 case rel => exact ⟨j + 1, bk14, by go_num, by omega, HA5.out, HB5.out, HO5.out, hs5, HL5.out⟩
 case measure => simp [intOf]; omega)))
 · (
 obtain rfl : j = lb := by omega
 have HSN : Hid (∀ l, l < j -> (if l < j then uniO (outO E (L.take r) l) (E m l) else outO E (L.take r) l) = outO E (L.take (r + 1)) l) := hid (fun l hl => by rw [if_pos hl, take_snoc HM.out, p2z])
 have HA5 := hid (HAT.out.congrL HSN.out)
 have HL5 : Hid (∀ l, l < j -> ∀ F, outO E (L.take (r + 1)) l = some F -> wq.heap.size <= bk l) := hid (fun l hl F hF => HLO.out l hl F (by rw [HSN.out l hl]; exact hF))
 clear HAT HLO HSN
 go_wp2_with fail
 go_roundw
 case rel => exact ⟨r + 1, bk, by go_num, by omega, HA5.out, HBX.out, HOT.out, hqs, HL5.out⟩
 case measure => simp [intOf]; omega)))
 · (
 obtain rfl : r = ml := by omega
 have hdone := HAT.out.done
 have htk : L.take r = L := by rw [HML.out, List.take_length]
 rw [htk, HLE.out] at hdone
 have hcl := (KT.out _ HBX.out).close hdone (by have := HAT.out.row.lt; omega)
 have HCL := hid (hcl.congr (T' := fun p l => outO E (idsN (F p) n) l) (fun p _ => by (
 by_cases e : p = i
 · subst e; rw [j0o]
 · rw [j0n _ _ e])))
 have HBN := hid (KA.out _ HBX.out)
 clear hdone htk hcl HAT HBX HOT HLO
 go_wp2_with fail
 go_roundw
 case rel => exact ⟨i + 1, by go_num, by omega, HCL.out, HBN.out⟩
 case measure => simp [intOf]; omega)))
 · (
 obtain rfl : n = i := by omega
 have HBF := hid (HB.out.trans (HBA.out.mono hws))
 have HEN : Hid (∀ p l, p < n -> l < lb -> EndsOk s G p (l : Int) (outO E (idsN (F p) n) l)) := hid (fun p l hp hl => j3f HX.out.right HX.out.st hp (fun m _ => HEO.out m l hl) (fun m => by
   rw [q0e, HX.out.tr p hp m]
   exact ⟨fun h => h.2, fun h => ⟨h.ltW HX.out.right HX.out.st hp, h⟩⟩))
 have hubl : w.heap.size <= ub := by omega
 go_wp2_with fail
 go_ret
 exact ⟨ub, _, rfl, HTA2.out, hubl, HBF.out, HEN.out⟩))))
end Go.Proofs.YtbaccmlfnbgehaaGreatDoor

/-
  Lemmas.
-/
import Derived.Test.YtjchdegapadepaaGreatDoorGBrP
import Derived.Test.YtjchdegapadepaaGreatDoorGPl6
import Derived.Test.YtjchdegapadepaaGreatDoorGFrs
import Derived.Test.YtjchdegapadepaaGreatDoorGMem
import Derived.Test.YtjchdegapadepaaGreatDoorGPl3
import Derived.Deep.Cut
import Derived.Test.YtjchdegapadepaaGreatDoorTauA
import Derived.BigRegion
import Derived.Deep.LoopGhost
set_option maxHeartbeats 8000000
set_option maxRecDepth 100000
namespace Go.Proofs.YtjchdegapadepaaGreatDoor
namespace Pl
theorem col_st (s : Lts) (n : Nat) (f : Nat -> Int) : (col s (fl n (clf n f))).st = ((dist (fl n f)).length : Int) := by
 show ((dist (fl n (clf n f))).length : Int) = _
 rw [j0y]
def aheadS (s : Lts) (p : Int) : Lts := ⟨s.st + 1, s.lb, s.s0, s.es ++ [(s.st, 0, p)]⟩
end Pl
end Go.Proofs.YtjchdegapadepaaGreatDoor
namespace Go.Proofs.YtjchdegapadepaaGreatDoor
open Go.RowKit Pl
theorem j1b {w0 w w' : World} (h : Below w0.heap.size w0 w) (hB : Below w.heap.size w w') : Below w0.heap.size w0 w' := h.trans (hB.mono h.size)
structure KW (w5 wr : World) (O : Nat) (st lb s0 : Int) (v : Value) (es : List E) : Prop where
  oth : ∀ b, b < w5.heap.size -> b ≠ O -> wr.heap[b]? = w5.heap[b]?
  bel : Below O w5 wr
  oo : wr.heap[O]? = some (.cells #[.int .i64 st, .int .i64 lb, .int .i64 s0, v] 24 (0, 0))
  own : wr.ownsRow w5.heap.size 42 3 v es.length (es.flatMap encE)
  lt : O < w5.heap.size
section
variable {w5 wr w' : World} {O : Nat} {st lb s0 : Int} {v : Value} {es : List E}
theorem KW.call (h : KW w5 wr O st lb s0 v es) (hB : Below wr.heap.size wr w') : KW w5 w' O st lb s0 v es := by
 have hs := h.bel.size; have hl := h.lt
 exact ⟨fun b hb hne => by rw [hB.block _ (by omega)]; exact h.oth b hb hne, h.bel.trans (hB.mono (by omega)), by rw [hB.block _ (by omega)]; exact h.oo, own_below h.own hB, h.lt⟩
theorem KW.keepc {w1 : World} (h : KW w5 wr O st lb s0 v es) (hg : wr.grownBy w1 v.ownBlock) : w1.cell? ⟨O, 3, none⟩ = some v /\ w1.frozen? ⟨O, 3, none⟩ = false := by
 have hs := h.bel.size; have hl := h.lt
 have := (hg.block O (by omega) (fun e => by have := (h.own.lt O e.symm).1; omega)).trans h.oo
 constructor <;> simp [World.cell?, World.frozen?, this]
theorem KW.setEs {w1 : World} {v' : Value} {es' : List E} (h : KW w5 wr O st lb s0 v es) (hown : w1.ownsRow w5.heap.size 42 3 v' es'.length (es'.flatMap encE)) (hg : wr.grownBy w1 v.ownBlock) :
    KW w5 (w1.setCell ⟨O, 3, none⟩ v') O st lb s0 v' es' := by
 have hs := h.bel.size; have hl := h.lt; have hgs := hg.size
 have hv : ∀ b, b < w5.heap.size -> some b ≠ v.ownBlock := fun b hb e => by have := (h.own.lt b e.symm).1; omega
 refine ⟨fun b hb hne => ?_, (h.bel.grown hg (by omega) (fun k hk => by have := (h.own.lt k hk).1; omega)).setCell (Nat.le_refl _) _, ?_, ownsRow_setCell_below hown hl _, hl⟩
 · rw [Below.heap_setCell _ _ _ _ hne, hg.block b (by omega) (hv b hb)]
   exact h.oth b hb hne
 · exact heap_setCell_same _ O 3 _ _ _ ((hg.block O (by omega) (hv O hl)).trans h.oo)
theorem KW.cells (h : KW w5 wr O st lb s0 v es) : wr.cell? ⟨O, 0, none⟩ = some (.int .i64 st) /\ wr.cell? ⟨O, 1, none⟩ = some (.int .i64 lb) /\ wr.cell? ⟨O, 2, none⟩ = some (.int .i64 s0) /\ wr.cell? ⟨O, 3, none⟩ = some v /\ wr.frozen? ⟨O, 3, none⟩ = false := by
 have := h.oo
 refine ⟨?_, ?_, ?_, ?_, ?_⟩ <;> simp [World.cell?, World.frozen?, this]
end
end Go.Proofs.YtjchdegapadepaaGreatDoor
namespace Go.Proofs.YtjchdegapadepaaGreatDoor
open Go.RowKit Pl
section
variable {w0 w : World} {B WB LB NB IB CB n : Nat} {gp : Value} {low num cls : Nat -> Int} {iso : Nat -> Bool} {met found : Int} {ol : List Int} {sl : List E} {vo vs : Value}
theorem q2v (h : TW w0 w B WB LB NB IB CB n gp low num cls iso met found ol sl vo vs) {y : Nat} (hy : y < n) (hm0 : 0 <= met) (hm1 : met <= 1000) (hol : ol.length <= 1000) :
    Calls Tryz.prog 150 #[.pointer (some ⟨WB, 0, none⟩), .int .i64 y] w fun e w' => ∃ vo', e = .returned (.tuple #[]) /\
      TW w0 w' B WB LB NB IB CB n gp (upd low y (met + 1)) (upd num y (met + 1)) cls (upd iso y true) (met + 1) found (ol ++ [(y : Int)]) sl vo' vs := by
 obtain ⟨c0, c1, c2, c3, c4, c5, c6, c7, c8⟩ := h.cells
 have f6 := h.fz 6
 obtain ⟨l1, l2, l3, l4, l5, l6⟩ := h.lts
 have hyn : (y : Int) < (n : Int) := by omega
 have H := Lib.hid h
 have H1 := Lib.hid (h.setMet (met + 1))
 obtain ⟨n1, n2, n3, n4⟩ := h.blk.w
 have n1s := n1.symm; have n2s := n2.symm; have n3s := n3.symm; have n4s := n4.symm
 obtain ⟨b1, b2, b3⟩ := h.blk.l; obtain ⟨b4, b5, b6⟩ := h.blk.n
 have b1s := b1.symm
 have hq : IntKind.i64.wrap (met + 1) = met + 1 := IntWalk.i64_in _ (by omega)
 clear h
 go_enter Tryz.func150, Tryz.ntmps150
 go_upto_region 1 with fail
 clear hq c0 c1 c2 c3 c4 c5 c6 c7 c8 f6
 go_cut [] from 4 (fun wx => TW w0 wx B WB LB NB IB CB n gp (upd low y (met + 1)) (upd num y (met + 1)) cls iso (met + 1) found ol sl vo vs)
 case first => (
 obtain ⟨c0, c1, c2, c3, c4, c5, c6, c7, c8⟩ := H1.out.cells
 have g1 := H1.out.low.cell hy; have g2 := H1.out.num.cell hy
 have e1 := H1.out.low.frozen y; have e2 := H1.out.num.frozen y
 obtain ⟨W, hW⟩ : ∃ W, W = w.setCell ⟨WB, 6, none⟩ (.int .i64 (met + 1)) := ⟨_, rfl⟩
 rw [<- hW] at c0 c1 c2 c3 c4 c5 c6 c7 c8 g1 g2 e1 e2 H1 ⊢
 clear hW
 go_region_held3 (fun w' => w'.cell? ⟨WB, 1, none⟩ = some (.slice (some ⟨LB, 0, none⟩) n n) /\ w'.cell? ⟨WB, 2, none⟩ = some (.slice (some ⟨NB, 0, none⟩) n n) /\ w'.cell? ⟨WB, 6, none⟩ = some (.int .i64 (met + 1))) (go_keep) (fail)
 all_goals (
 go_wp2_with fail
 go_meet
 exact ((H1.out.setNum y _).setLow y _).drew))
 case rest => (
 have HC := Lib.hid hcut
 obtain ⟨c0, c1, c2, c3, c4, c5, c6, c7, c8⟩ := hcut.cells
 obtain ⟨l1, l2, l3, l4, l5, l6⟩ := hcut.lts
 clear hcut H H1
 go_upto_region 3 with (at_builtin; go_must (refine p0j rfl _ _ _ rfl v0u (by have := HC.out.bsz; simp; omega) rfl (HC.out.opn.alloc _) ⟨wc.heap.size, 0, none⟩ 1 1 [.int .i64 y] rfl rfl (k0i (by simp [go_sem])) (by simp [Value.oneCell']) (by decide) (by omega) (by unfold maxLen; omega) (wc.heap.size + 1) (by simp) ?_); intro g2 cap2 w7 hown7 hg7 hl7 hlt7; obtain ⟨d0, d1, d2, d3, d4, d5, d6, d7, d8, d9, d10, d11⟩ := TW.wcells (((HC.out.alloc _).grownO hg7).1.trans (HC.out.alloc _).wb))
 have hp := TW.pushO (m := ol.length + 1) (c := cap2) (ol' := ol ++ [(y : Int)]) (HC.out.alloc _) (by rw [List.length_append, List.flatMap_append]; exact hown7) hg7 (hl7.imp_right (fun e => by simp; omega))
 have HP := Lib.hid hp
 clear d0 d1 d2 d3 d4 d5 d6 d7 d8 d9 d10 d11 c0 c1 c2 c3 c4 c5 c6 c7 c8 l1 l2 l3 l4 l5 l6 hown7 hg7 hl7 hlt7
 obtain ⟨c0, c1, c2, c3, c4, c5, c6, c7, c8⟩ := hp.cells
 obtain ⟨l1, l2, l3, l4, l5, l6⟩ := hp.lts
 have g1 := hp.iso.cell hy
 have e1 := hp.iso.frozen y
 clear hp
 obtain ⟨W, hW⟩ : ∃ W, W = w7.setCell ⟨WB, 3, none⟩ (.slice (some ⟨g2, 0, none⟩) (ol.length + 1) cap2) := ⟨_, rfl⟩
 rw [<- hW] at c0 c1 c2 c3 c4 c5 c6 c7 c8 g1 e1 l1 l2 l3 l4 l5 l6 HP ⊢
 clear hW
 go_wp2
 go_end0
 exact ⟨_, rfl, HP.out.setIso y true⟩)
end
end Go.Proofs.YtjchdegapadepaaGreatDoor
namespace Go.Proofs.YtjchdegapadepaaGreatDoor
open Go.RowKit Pl
open Lib (hid)
section
variable {w0 w : World} {B WB LB NB IB CB n : Nat} {gp : Value} {low num cls : Nat -> Int} {iso : Nat -> Bool} {met found : Int} {sl : List E} {vo vs : Value}
theorem z1u {ol : List Int} (h : TW w0 w B WB LB NB IB CB n gp low num cls iso met found ol sl vo vs) {y : Nat} (hy : y < n) (hne : low y ≠ num y) :
    Calls Tryz.prog 152 #[.pointer (some ⟨WB, 0, none⟩), .int .i64 y] w fun e w' => e = .returned (.tuple #[]) /\
      TW w0 w' B WB LB NB IB CB n gp low num cls iso met found ol sl vo vs := by
 obtain ⟨c0, c1, c2, c3, c4, c5, c6, c7, c8⟩ := h.cells
 obtain ⟨l1, l2, l3, l4, l5, l6⟩ := h.lts
 have hyn : (y : Int) < (n : Int) := by omega
 have g1 := h.low.cell hy; have g2 := h.num.cell hy
 obtain ⟨a, ha⟩ : ∃ a, a = low y := ⟨_, rfl⟩
 obtain ⟨b, hb⟩ : ∃ b, b = num y := ⟨_, rfl⟩
 rw [<- ha] at g1 hne; rw [<- hb] at g2 hne
 have hq : (a != b) = true := by simp [hne]
 have H := hid h
 clear h ha hb hne c0 c3 c4 c5 c6 c7 c8
 go_enter Tryz.func152, Tryz.ntmps152
 go_wp2_with fail
 go_quiet (fail)
 go_wp2
 refine bodyPost_ret (results_none rfl _ _ _) rfl ?_
 exact ⟨rfl, H.out.drewN _⟩
theorem j2r {β : Type} (f : Nat -> β) (v : β) (z : Nat) (D : List Int) : upd (fun (i : Nat) => if (i : Int) ∈ D then v else f i) z v = fun (i : Nat) => if (i : Int) ∈ (z : Int) :: D then v else f i := by
 funext i
 unfold upd
 by_cases h : i = z
 · subst h; simp
 · rw [if_neg h]
   have : ((i : Int) ∈ (z : Int) :: D) ↔ (i : Int) ∈ D := by simp; omega
   simp only [this]
theorem q1f {Qr Pr : List Int} {y : Nat} (h : TW w0 w B WB LB NB IB CB n gp low num cls iso met found (Qr ++ [(y : Int)] ++ Pr) sl vo vs) (hy : y < n) (heq : low y = num y) (hP : ∀ z ∈ Pr, 0 <= z /\ z < (n : Int) /\ z ≠ (y : Int)) (hl : (Qr ++ [(y : Int)] ++ Pr).length <= 1000) (hf : 0 <= found /\ found <= 1000) :
    Calls Tryz.prog 152 #[.pointer (some ⟨WB, 0, none⟩), .int .i64 y] w fun e w' => ∃ vo', e = .returned (.tuple #[]) /\
      TW w0 w' B WB LB NB IB CB n gp low num (fun (i : Nat) => if (i : Int) ∈ (y : Int) :: Pr then found else cls i) (fun (i : Nat) => if (i : Int) ∈ (y : Int) :: Pr then false else iso i) met (found + 1) Qr sl vo' vs := by
 obtain ⟨c0, c1, c2, c3, c4, c5, c6, c7, c8⟩ := h.cells
 obtain ⟨l1, l2, l3, l4, l5, l6⟩ := h.lts
 have hyn : (y : Int) < (n : Int) := by omega
 have g1 := h.low.cell hy; have g2 := h.num.cell hy
 rw [heq] at g1
 obtain ⟨a, ha⟩ : ∃ a, a = num y := ⟨_, rfl⟩
 rw [<- ha] at g1 g2
 have hq : (a != a) = false := by simp
 obtain ⟨n1, n2, n3, n4⟩ := h.blk.w
 have n1s := n1.symm; have n2s := n2.symm; have n3s := n3.symm; have n4s := n4.symm
 have H := hid h; have HP := hid hP
 have hf0 := hf.1; have hf1 := hf.2
 clear h ha heq hP hf c0 c3 c4 c5 c6 c7 c8
 go_enter Tryz.func152, Tryz.ntmps152
 go_wp2_with fail
 go_quiet (fail)
 have H1 := hid (H.out.drewN nq)
 clear g1 g2 c1 c2 H
 go_wp2_with fail
 go_loopg [4] Pr.length (fun k _ wr => ∃ (R D : List Int) (vo' : Value), k = R.length /\ Pr = R ++ D /\ TW w0 wr B WB LB NB IB CB n gp low num (fun (i : Nat) => if (i : Int) ∈ D then found else cls i) (fun (i : Nat) => if (i : Int) ∈ D then false else iso i) met found (Qr ++ [(y : Int)] ++ R) sl vo' vs)
 case atStart => exact ⟨Pr, [], vo, rfl, by simp, by simpa using H1.out⟩
 case round => (
 obtain ⟨R, D, vo', rfl, hPr, htw⟩ := hrel
 clear H1
 have key : ∃ (X : List Int) (z : Nat), Qr ++ [(y : Int)] ++ R = X ++ [(z : Int)] /\ z < n /\ ((R = [] /\ z = y /\ X = Qr) ∨ (∃ R', R = R' ++ [(z : Int)] /\ z ≠ y /\ X = Qr ++ [(y : Int)] ++ R')) := by (
 rcases List.eq_nil_or_concat R with rfl | ⟨R', z, rfl⟩
 · exact ⟨Qr, y, by simp, hy, .inl ⟨rfl, rfl, rfl⟩⟩
 · have hz := HP.out z (by rw [hPr]; simp)
   refine ⟨Qr ++ [(y : Int)] ++ R', z.toNat, by rw [show ((z.toNat : Nat) : Int) = z by omega]; simp, by omega, .inr ⟨R', by rw [show ((z.toNat : Nat) : Int) = z by omega]; simp, by omega, rfl⟩⟩)
 obtain ⟨X, z, hX, hz, hcase⟩ := key
 have hXl : X.length + 1 <= 1000 := by (
 have h1 := congrArg List.length hX
 rw [hPr] at hl
 simp at h1 hl
 omega)
 rw [hX] at htw
 obtain ⟨a3, c3', g3, rfl, hcc, hcm, hsl, hgb⟩ := j0f k0v htw.opn
 obtain rfl := hsl.ad (by simp)
 have hcz : wr.cell? ⟨g3, X.length, none⟩ = some (.int .i64 z) := by
   have := hsl.ci (i := X.length) (x := (z : Int)) (by simp)
   simpa using this
 have hgl := hsl.lt (by simp)
 have hgB : B <= g3 := hgb (by simp)
 have hblk := htw.blk.hi
 rw [List.length_append, List.length_singleton] at htw hcc
 obtain ⟨p, hp⟩ : ∃ p, p = X.length := ⟨_, rfl⟩
 obtain ⟨q, hqq⟩ : ∃ q, q = p + 1 := ⟨_, rfl⟩
 rw [<- hp, <- hqq] at htw hcc
 rw [<- hp] at hcz
 obtain ⟨c0, c1, c2, c3, c4, c5, c6, c7, c8⟩ := htw.cells
 obtain ⟨l1, l2, l3, l4, l5, l6⟩ := htw.lts
 have w1 : IntKind.i64.wrap ((q : Int) - 1) = (p : Int) := by rw [IntWalk.i64_in _ (by omega)]; omega
 have w2 : (0 : Int) <= (p : Int) := by omega
 have w3 : (p : Int) < (q : Int) := by omega
 have w4 : (p : Int) <= (c3' : Int) := by omega
 have w5 : ¬ c3' = 0 := by omega
 have hzn : (z : Int) < (n : Int) := by omega
 have gf := htw.fz 3
 have HT := hid htw; have HPR := hid hPr; have HX := hid hX; have HCS := hid hcase; have HPP := hid hp; have HQQ := hid hqq
 clear htw hPr hX hcase hsl hgb hp hqq
 go_wp2_with fail
 go_quiet (fail)
 go_wp2_with fail
 go_region
 have h2 : TW w0 ((wr.drewN (nq + 1)).setCell ⟨WB, 3, none⟩ (.slice (some ⟨g3, 0, none⟩) p c3')) B WB LB NB IB CB n gp low num (fun (i : Nat) => if (i : Int) ∈ D then found else cls i) (fun (i : Nat) => if (i : Int) ∈ D then false else iso i) met found X sl (.slice (some ⟨g3, 0, none⟩) p c3') vs := by (
 have h3 := (HT.out.drewN (nq + 1)).popO (by rw [HQQ.out, HPP.out])
 rw [<- HPP.out] at h3
 exact h3)
 obtain ⟨W2, hW2⟩ : ∃ W2, W2 = (wr.drewN (nq + 1)).setCell ⟨WB, 3, none⟩ (.slice (some ⟨g3, 0, none⟩) p c3') := ⟨_, rfl⟩
 rw [<- hW2] at h2 ⊢
 clear hW2 c0 c1 c2 c3 c4 c5 c6 c7 c8 l1 l2 l3 l4 l5 l6 hcz hgl w1 w2 w3 w4 w5 gf
 obtain ⟨c0, c1, c2, c3, c4, c5, c6, c7, c8⟩ := h2.cells
 obtain ⟨l1, l2, l3, l4, l5, l6⟩ := h2.lts
 have g1 := h2.iso.cell hz; have e1 := h2.iso.frozen z
 have g2 := h2.cls.cell hz; have e2 := h2.cls.frozen z
 obtain ⟨b4, b5, b6⟩ := h2.blk.n
 have b6s := b6.symm
 have H2 := hid h2
 clear h2 c0 c1 c2 c3 c6 c8
 obtain ⟨x1, hx1⟩ : ∃ x1, x1 = (if (z : Int) ∈ D then found else cls z) := ⟨_, rfl⟩
 obtain ⟨x2, hx2⟩ : ∃ x2, x2 = (if (z : Int) ∈ D then false else iso z) := ⟨_, rfl⟩
 rw [<- hx1] at g2; rw [<- hx2] at g1
 clear hx1 hx2
 go_wp2_with fail
 go_region
 have h3 := ((H2.out.setIso z false).setCls z found).drew
 rw [j2r, j2r] at h3
 obtain ⟨W3, hW3⟩ : ∃ W3, W3 = ((W2.setCell ⟨IB, z, none⟩ (.bool false)).setCell ⟨CB, z, none⟩ (.int .i64 found)).drew := ⟨_, rfl⟩
 rw [<- hW3] at h3 ⊢
 clear hW3 c4 c5 c7 l1 l2 l3 l4 l5 l6 g1 g2 e1 e2
 obtain ⟨c0, c1, c2, c3, c4, c5, c6, c7, c8⟩ := h3.cells
 obtain ⟨l1, l2, l3, l4, l5, l6⟩ := h3.lts
 have f7 := h3.fz 7
 have H3 := hid h3
 clear h3 c0 c1 c2 c3 c4 c5 c6 c8
 rcases HCS.out with ⟨hR, hzy, hXQ⟩ | ⟨R', hR, hzy, hXQ⟩
 · (
 have hb : ((z : Int) == (y : Int)) = true := by simp [hzy]
 have hw : IntKind.i64.wrap (found + 1) = found + 1 := IntWalk.i64_in _ (by omega)
 have HR := hid hR; have HZ := hid hzy; have HXQ := hid hXQ
 clear hR hzy hXQ
 go_wp2
 go_end0
 have h4 := H3.out.setFound (found + 1)
 have hD : D = Pr := by have := HPR.out; rw [HR.out] at this; simpa using this.symm
 rw [HXQ.out, HZ.out, hD] at h4
 exact ⟨_, rfl, h4⟩)
 · (
 have hb : ((z : Int) == (y : Int)) = false := by simp; omega
 have hk : R'.length < R.length := by rw [hR]; simp
 have HR := hid hR; have HXQ := hid hXQ
 clear hR hzy hXQ
 go_wp2
 go_roundg R'.length
 case measure => exact hk
 case rel => exact ⟨R', (z : Int) :: D, _, rfl, by rw [HPR.out, HR.out]; simp, by rw [<- HXQ.out]; exact H3.out⟩))
end
end Go.Proofs.YtjchdegapadepaaGreatDoor
namespace Go.Proofs.YtjchdegapadepaaGreatDoor
open Go.RowKit Pl
open Lib (hid)
namespace Pl
theorem tw_get {α : Type} {p : α -> Bool} : ∀ {l : List α} {k : Nat}, k < (l.takeWhile p).length -> ∃ a, l[k]? = some a /\ p a = true /\ (l.takeWhile p)[k]? = some a
  | [], k, h => by simp at h
  | a :: l, k, h => by
    rw [List.takeWhile_cons] at h ⊢
    cases hp : p a with
    | false => rw [hp] at h; simp at h
    | true =>
      rw [hp] at h
      simp only [if_true] at h ⊢
      cases k with
      | zero => exact ⟨a, rfl, hp, rfl⟩
      | succ k =>
        obtain ⟨b, h1, h2, h3⟩ := tw_get (l := l) (k := k) (by simpa using h)
        exact ⟨b, by simpa using h1, h2, by simpa using h3⟩
theorem j2s {α : Type} {p : α -> Bool} : ∀ (l : List α), (l.takeWhile p).length = l.length ∨ ∃ a, l[(l.takeWhile p).length]? = some a /\ p a = false
  | [] => .inl rfl
  | a :: l => by
    rw [List.takeWhile_cons]
    cases hp : p a with
    | false => exact .inr ⟨a, by simp, hp⟩
    | true =>
      rcases j2s (p := p) l with h | ⟨b, h1, h2⟩
      · left; simp [h]
      · right; exact ⟨b, by simpa using h1, h2⟩
theorem tw_le {α : Type} {p : α -> Bool} (l : List α) : (l.takeWhile p).length <= l.length := by
 rcases j2s (p := p) l with h | ⟨a, h1, _⟩
 · omega
 · have := (List.getElem?_eq_some_iff.1 h1).1; omega
theorem taus_get {s : Lts} {x k : Nat} (h : k < (taus s x).length) : ∃ st : S, (s.outs (x : Int))[k]? = some st /\ st.1 = 0 /\ (taus s x)[k]? = some st.2.toNat := by
 unfold taus at h ⊢
 rw [List.length_map] at h
 obtain ⟨a, h1, h2, h3⟩ := tw_get h
 exact ⟨a, h1, by simpa using h2, by rw [List.getElem?_map, h3]; rfl⟩
theorem taus_end (s : Lts) (x : Nat) : (taus s x).length = (s.outs (x : Int)).length ∨ ∃ st : S, (s.outs (x : Int))[(taus s x).length]? = some st /\ st.1 ≠ 0 := by
 unfold taus
 rw [List.length_map]
 rcases j2s (p := fun y : S => y.1 == 0) (s.outs (x : Int)) with h | ⟨a, h1, h2⟩
 · exact .inl h
 · exact .inr ⟨a, h1, by simpa using h2⟩
theorem taus_le (s : Lts) (x : Nat) : (taus s x).length <= (s.outs (x : Int)).length := by
 unfold taus; rw [List.length_map]; exact tw_le _
end Pl
def TWS (w0 wr : World) (B WB LB NB IB CB n : Nat) (gp : Value) (t : TS) (sl : List E) (vo vs : Value) : Prop :=
  TW w0 wr B WB LB NB IB CB n gp t.low t.num t.cls (fun (j : Nat) => decide (j ∈ t.opn)) t.met t.found (t.opn.reverse.map Int.ofNat) sl vo vs
theorem newV {w : World} {b : Nat} {t : TypeId} {e : E} (h : w.heap[b]? = some (.cells #[.int .i64 e.1, .int .i64 e.2.1, .int .i64 e.2.2] t (0, 0))) :
    ∀ j u, [Value.int .i64 e.1, .int .i64 e.2.1, .int .i64 e.2.2][j]? = some u -> w.cell? ((⟨b, 0, none⟩ : Addr).add j) = some u :=
  cells3 (by simp [World.cell?, h]) (by simp [World.cell?, h]) (by simp [World.cell?, h])
theorem q2p (sl0 : List E) (a b c c' : Int) : ((sl0 ++ [(a, b, c)]).flatMap encE).set (sl0.length * 3 + 2) (.int .i64 c') = (sl0 ++ [(a, b, c')]).flatMap encE := by
 rw [List.flatMap_append, List.flatMap_append, List.set_append, if_neg (by rw [j0b p0n]; omega), j0b p0n]
 rw [show sl0.length * 3 + 2 - sl0.length * 3 = 2 by omega]
 rfl
theorem v0e (sl0 : List E) (a b c b' : Int) : ((sl0 ++ [(a, b, c)]).flatMap encE).set (sl0.length * 3 + 1) (.int .i64 b') = (sl0 ++ [(a, b', c)]).flatMap encE := by
 rw [List.flatMap_append, List.flatMap_append, List.set_append, if_neg (by rw [j0b p0n]; omega), j0b p0n]
 rw [show sl0.length * 3 + 1 - sl0.length * 3 = 1 by omega]
 rfl
section
variable {w0 w wr : World} {B WB LB NB IB CB n : Nat} {gp : Value} {low num cls : Nat -> Int} {iso : Nat -> Bool} {met found : Int} {ol : List Int} {sl : List E} {vo vs : Value}
theorem TW.top {sl0 : List E} {x : E} {g m c : Nat} (h : TW w0 wr B WB LB NB IB CB n gp low num cls iso met found ol (sl0 ++ [x]) vo (.slice (some ⟨g, 0, none⟩) m c)) :
    wr.cell? ⟨g, sl0.length * 3, none⟩ = some (.int .i64 x.1) /\ wr.cell? ⟨g, sl0.length * 3 + 1, none⟩ = some (.int .i64 x.2.1) /\ wr.cell? ⟨g, sl0.length * 3 + 2, none⟩ = some (.int .i64 x.2.2) /\ (∀ j, wr.frozen? ⟨g, j, none⟩ = false) /\ g < wr.heap.size /\ B <= g /\ m = sl0.length + 1 /\ m <= c := by
 have hs := q0t (n := m) (cap := c) p0n h.stk
 have hx : (sl0 ++ [x])[sl0.length]? = some x := by simp
 have h0 := hs.e0 hx; have h1 := hs.e1 hx; have h2 := hs.e2 hx
 simp only [Nat.zero_add] at h0 h1 h2
 obtain ⟨a', c', b', hv, q1, q2, _⟩ := j0f p0n h.stk
 simp only [Value.slice.injEq] at hv
 obtain ⟨_, hm, hc⟩ := hv
 subst hc
 refine ⟨h0, h1, h2, fun j => k0s h.stk j, hs.lt (by simp), h.sgt g rfl, by simpa using hm, by omega⟩
end
def DeepPost (s : Lts) (w0 : World) (B WB LB NB IB CB n : Nat) (gp : Value) (t0 : TS) (x : Nat) (K : List Nat) (nx0 : Nat -> Nat) (sl0 : List E) (vo vs : Value) (e : Ending) (w' : World) : Prop :=
  ∃ (t : TS) (nx : Nat -> Nat), TI s n t (x :: K) nx /\ (∀ z, z ≠ x -> nx z = nx0 z) /\ ((∀ z, t0.num z ≠ 0 -> t.num z ≠ 0) /\ t0.met <= t.met) /\
    ((e = .returned (.bool true) /\ ∃ (y : Nat) (g m c : Nat), (taus s x)[nx x]? = some y /\ t.num y = 0 /\ TWS w0 w' B WB LB NB IB CB n gp t (sl0 ++ [((x : Int), 1, ((nx x + 1 : Nat) : Int))] ++ [((y : Int), 0, 0)]) vo (.slice (some ⟨g, 0, none⟩) m c)) ∨
     (e = .returned (.bool false) /\ nx x = (taus s x).length /\ TWS w0 w' B WB LB NB IB CB n gp t (sl0 ++ [((x : Int), 1, ((nx x : Nat) : Int))]) vo vs))
theorem u0x {s : Lts} {w0 w : World} {B WB LB NB IB CB n gb : Nat} {t : TS} {x : Nat} {K : List Nat} {nx : Nat -> Nat} {sl0 : List E} {vo : Value} {g m c : Nat} (hG : GraphAt w0 gb s) (hn : s.st = (n : Int)) (hTI : TI s n t (x :: K) nx)
    (h : TWS w0 w B WB LB NB IB CB n (.pointer (some ⟨gb, 0, none⟩)) t (sl0 ++ [((x : Int), 1, ((nx x : Nat) : Int))]) vo (.slice (some ⟨g, 0, none⟩) m c)) (hsl : sl0.length <= 1000) (hnx : nx x <= (taus s x).length) :
    Calls Tryz.prog 151 #[.pointer (some ⟨WB, 0, none⟩), .pointer (some ⟨g, sl0.length * 3, none⟩)] w (DeepPost s w0 B WB LB NB IB CB n (.pointer (some ⟨gb, 0, none⟩)) t x K nx sl0 vo (.slice (some ⟨g, 0, none⟩) m c)) := by
 have hol := p0d hG.right (x : Int)
 have htl := taus_le s x
 have KEEP : Hid (∀ W, TWS w0 W B WB LB NB IB CB n (.pointer (some ⟨gb, 0, none⟩)) t (sl0 ++ [((x : Int), 1, ((nx x : Nat) : Int))]) vo (.slice (some ⟨g, 0, none⟩) m c) ->
     W.cell? ⟨WB, 0, none⟩ = some (.pointer (some ⟨gb, 0, none⟩)) /\ W.cell? ⟨g, sl0.length * 3, none⟩ = some (.int .i64 x) /\ TWS w0 W B WB LB NB IB CB n (.pointer (some ⟨gb, 0, none⟩)) t (sl0 ++ [((x : Int), 1, ((nx x : Nat) : Int))]) vo (.slice (some ⟨g, 0, none⟩) m c)) :=
   hid (fun W hW => ⟨(TW.cells hW).1, (TW.top hW).1, hW⟩)
 obtain ⟨gl, gB⟩ : g < w.heap.size /\ B <= g := ⟨(TW.top h).2.2.2.2.1, (TW.top h).2.2.2.2.2.1⟩
 obtain ⟨l1, l2, l3, l4, l5, l6⟩ := TW.lts h
 have hxn : x < n := hTI.opn_lt x (hTI.gin x List.mem_cons_self)
 have H := hid h; have HG := hid hG; have HN := hid hn; have HTI := hid hTI; have HNX := hid hnx
 have CE : Hid (∀ W, TWS w0 W B WB LB NB IB CB n (.pointer (some ⟨gb, 0, none⟩)) t (sl0 ++ [((x : Int), 1, ((nx x : Nat) : Int))]) vo (.slice (some ⟨g, 0, none⟩) m c) -> Calls Tryz.prog 52 #[.pointer (some ⟨gb, 0, none⟩), .int .i64 x] W fun e w' => StepsRet w0 e (s.outs x) /\ Below W.heap.size W w') :=
   hid (fun W hW => x0o HG.out (TW.bel hW) x)
 have HS0 : Hid (TWS w0 w.drew B WB LB NB IB CB n (.pointer (some ⟨gb, 0, none⟩)) t (sl0 ++ [((x : Int), 1, ((nx x : Nat) : Int))]) vo (.slice (some ⟨g, 0, none⟩) m c)) := hid (TW.drew h)
 obtain ⟨o, ho⟩ : ∃ o, o = sl0.length * 3 := ⟨_, rfl⟩
 rw [<- ho] at KEEP ⊢
 have HO := hid ho
 clear h hG hn hTI hnx ho
 go_enter Tryz.func151, Tryz.ntmps151
 go_wp2_with fail
 go_region_held3 (fun W => W.cell? ⟨WB, 0, none⟩ = some (.pointer (some ⟨gb, 0, none⟩)) /\ W.cell? ⟨g, o, none⟩ = some (.int .i64 x) /\ TWS w0 W B WB LB NB IB CB n (.pointer (some ⟨gb, 0, none⟩)) t (sl0 ++ [((x : Int), 1, ((nx x : Nat) : Int))]) vo (.slice (some ⟨g, 0, none⟩) m c))
   (first | (exact KEEP.out _ HS0.out) | (go_split_ands; exact KEEP.out _ (TW.call (by assumption) (by assumption))))
   ((go_at_call 52; go_split_ands; refine (CE.out _ (by assumption)).mono ?_; rintro e w1 ⟨⟨a1, c1, b1, o1, rfl, hc1, hm1, hs1⟩, hB⟩))
 have HW1 : Hid (TWS w0 w1 B WB LB NB IB CB n (.pointer (some ⟨gb, 0, none⟩)) t (sl0 ++ [((x : Int), 1, ((nx x : Nat) : Int))]) vo (.slice (some ⟨g, 0, none⟩) m c)) := hid (by go_split_ands; assumption)
 go_split_ands
 obtain ⟨L, hL⟩ : ∃ L, L = s.outs (x : Int) := ⟨_, rfl⟩
 rw [<- hL] at hol htl hs1 ⊢
 have HL := hid hL; have HS1 := hid hs1
 clear hs1 hL hB KEEP CE HS0 H l1 l2 l3 l4 l5 l6 gl
 rename_i q1 q2 q3
 clear q1 q2 q3
 go_wp2_with fail
 go_loopg [6] ((taus s x).length - nx x) (fun k _ wr => ∃ (tt : TS) (nn : Nat -> Nat), k = (taus s x).length - nn x /\ nn x <= (taus s x).length /\ TI s n tt (x :: K) nn /\ (∀ z, z ≠ x -> nn z = nx z) /\ ((∀ z, t.num z ≠ 0 -> tt.num z ≠ 0) /\ t.met <= tt.met) /\ TWS w0 wr B WB LB NB IB CB n (.pointer (some ⟨gb, 0, none⟩)) tt (sl0 ++ [((x : Int), 1, ((nn x : Nat) : Int))]) vo (.slice (some ⟨g, 0, none⟩) m c))
 case atStart => exact ⟨t, nx, rfl, HNX.out, HTI.out, fun _ _ => rfl, ⟨fun _ h => h, Int.le_refl _⟩, HW1.out⟩
 case round => (
 obtain ⟨tt, nn, rfl, hnn, hti, hoth, hmon, htw⟩ := hrel
 have HMON := hid hmon
 clear hmon
 obtain ⟨kx, hkx⟩ : ∃ kx, kx = nn x := ⟨_, rfl⟩
 rw [<- hkx] at htw hnn
 obtain ⟨v0, v1, v2, vf, gl, y1, y2, y3⟩ := TW.top htw
 clear y1 y2 y3
 rw [<- HO.out] at v0 v1 v2
 have vf2 := vf (o + 2)
 have hsr := HS1.out.below (TW.bel htw) (Nat.le_refl _)
 have hT := hid htw; have HTI2 := hid hti; have HOT := hid hoth; have HKX := hid hkx
 obtain ⟨h1, h2, h3, h4, h5⟩ := (TW.blk htw).hi
 have d1 : ¬ g = WB := by omega
 have d1s : ¬ WB = g := by omega
 clear htw hti hoth hkx vf HW1 HTI v1
 by_cases hlt : kx < (taus s x).length
 · (
 obtain ⟨st, hst, h0, htg⟩ := taus_get hlt
 rw [<- HL.out] at hst
 have hkl := (List.getElem?_eq_some_iff.1 hst).1
 obtain rfl := hsr.ad (by omega)
 have e0 := hsr.s0 hst; have e1 := hsr.s1 hst
 have hbl := hsr.lt (by omega)
 have hyr := j0e.1 (HG.out.right.edges _ (j0j.1 (by rw [<- HL.out]; exact List.mem_of_getElem? hst)))
 have hyr2 := HN.out
 obtain ⟨st0, st1⟩ := st
 simp only at h0 hyr e0 e1 htg
 subst h0
 obtain ⟨y, rfl⟩ : ∃ y : Nat, st1 = (y : Int) := ⟨st1.toNat, by omega⟩
 simp only [Int.toNat_natCast] at htg
 have hyn : y < n := by omega
 have hyn' : (y : Int) < (n : Int) := by omega
 have hki : (kx : Int) < (L.length : Int) := by omega
 have hw : IntKind.i64.wrap ((kx : Int) + 1) = (kx : Int) + 1 := IntWalk.i64_in _ (by omega)
 have HST := hid hst; have HTG := hid htg; have HSR := hid hsr
 clear hst htg hyr hyr2 hsr
 go_upto_region 5 with fail
 have h2 : TW w0 (wr.setCell ⟨g, o + 2, none⟩ (.int .i64 ((kx : Int) + 1))) B WB LB NB IB CB n (.pointer (some ⟨gb, 0, none⟩)) tt.low tt.num tt.cls (fun (j : Nat) => decide (j ∈ tt.opn)) tt.met tt.found (tt.opn.reverse.map Int.ofNat) (sl0 ++ [((x : Int), 1, ((kx + 1 : Nat) : Int))]) vo (.slice (some ⟨g, 0, none⟩) m c) := by
   rw [HO.out]
   exact TW.setV hT.out _ _ (by simp) (by rw [q2p]; rfl)
 obtain ⟨W2, hW2⟩ : ∃ W2, W2 = wr.setCell ⟨g, o + 2, none⟩ (.int .i64 ((kx : Int) + 1)) := ⟨_, rfl⟩
 rw [<- hW2] at h2 ⊢
 clear hW2 v0 v2 vf2 e0 e1 gl hbl
 obtain ⟨c0, c1', c2, c3, c4, c5, c6, c7, c8⟩ := h2.cells
 obtain ⟨l1, l2, l3, l4, l5, l6⟩ := h2.lts
 have g2 := h2.num.cell hyn
 have H2 := hid h2
 obtain ⟨ny, hny⟩ : ∃ ny, ny = tt.num y := ⟨_, rfl⟩
 rw [<- hny] at g2
 have HNY := hid hny
 clear hny
 by_cases h0 : ny = 0
 · (
 have hb : (ny == 0) = true := by simp [h0]
 have H0 := hid h0
 have f8 := TW.fz H2.out 8
 clear h0 c0 c1' c3 c4 c5 c6 c7
 have hown2 : (W2.alloc (.cells #[.int .i64 y, .int .i64 0, .int .i64 0] 212)).ownsRow B 212 3 (.slice (some ⟨g, 0, none⟩) m c) (sl0.length + 1) ((sl0 ++ [((x : Int), 1, ((kx + 1 : Nat) : Int))]).flatMap encE) := by (
 have h := TW.stk (TW.alloc H2.out (.cells #[.int .i64 y, .int .i64 0, .int .i64 0] 212))
 rw [List.length_append, List.length_singleton] at h
 exact h)
 have hBz : B <= (W2.alloc (.cells #[.int .i64 y, .int .i64 0, .int .i64 0] 212)).heap.size := Nat.le_trans (TW.bsz H2.out) (by simp)
 have HOWN2 := hid hown2; have HBZ := hid hBz
 clear hown2 hBz
 go_wp2_with (at_builtin; go_must (refine p0j rfl _ _ _ rfl rowV HBZ.out (v := .slice (some ⟨g, 0, none⟩) m c) (by rfl) HOWN2.out ⟨W2.heap.size, 0, none⟩ 1 1 [.int .i64 y, .int .i64 0, .int .i64 0] rfl rfl (newV (e := ((y : Int), 0, 0)) (heap_alloc_new W2 _)) (by simp [Value.oneCell']) (by decide) (by omega) (by unfold maxLen; omega) (W2.heap.size + 1) (by simp) ?_); intro g2' cap2 w7 hown7 hg7 hl7 hlt7; obtain ⟨k0, k1, k2, k3, k4, k5, k6, k7, k8, k9, k10, k11⟩ := TW.wcells ((TW.grownS (TW.alloc H2.out _) hg7).1.trans (TW.wb (TW.alloc H2.out _))))
 have hp := TW.pushS (m := sl0.length + 1 + 1) (c := cap2) (sl' := sl0 ++ [((x : Int), 1, ((kx + 1 : Nat) : Int))] ++ [((y : Int), 0, 0)]) (TW.alloc H2.out _) (by rw [List.length_append, List.length_append, List.length_singleton, List.length_singleton, List.flatMap_append]; exact hown7) hg7 (hl7.imp_right (fun e => by simp; omega))
 go_ret
 refine ⟨tt, nn, HTI2.out, HOT.out, HMON.out, .inl ⟨rfl, y, g2', sl0.length + 1 + 1, cap2, by rw [<- HKX.out]; exact HTG.out, by rw [<- HNY.out]; exact H0.out, ?_⟩⟩
 rw [<- HKX.out]
 exact hp)
 · (
 have hb : (ny == 0) = false := by simp [h0]
 have H0 := hid h0
 have g4 := h2.iso.cell hyn
 clear h0
 by_cases hop : y ∈ tt.opn
 · (
 have hd : decide (y ∈ tt.opn) = true := by simp [hop]
 rw [hd] at g4
 have HOP := hid hop
 have g1 := h2.low.cell hxn
 have e1 := h2.low.frozen x
 obtain ⟨lx, hlx⟩ : ∃ lx, lx = tt.low x := ⟨_, rfl⟩
 rw [<- hlx] at g1
 have HLX := hid hlx
 obtain ⟨u0, u1, u2, uf, ug, y1, y2, y3⟩ := TW.top h2
 clear y1 y2 y3
 rw [<- HO.out] at u0 u1 u2
 have hxn' : (x : Int) < (n : Int) := by omega
 clear hop hd hlx uf u1 u2 h2 c3 c5 c6 c7 c8
 go_wp2_with fail
 go_region
 have hsc := HTI2.out.scan (by rw [<- HKX.out]; exact HTG.out) (p0o HG.out.right HG.out.srt |>.1 (List.mem_of_getElem? HTG.out)) hyn (by rw [<- HNY.out]; exact H0.out)
 rw [if_pos HOP.out, <- HKX.out] at hsc
 have hmin : (if ny < lx then ny else lx) = min (tt.low x) (tt.num y) := by rw [<- HLX.out, <- HNY.out]; split <;> omega
 have h3 := (TW.setLow H2.out x (if ny < lx then ny else lx)).drew
 rw [hmin] at h3
 have H3 := hid h3; have HSC := hid hsc
 first | rw [hmin] | rw [show min lx ny = min (tt.low x) (tt.num y) by rw [<- HLX.out, <- HNY.out]]
 clear h3 hsc hmin u0 g1 g2 g4 e1 l1 l2 l3 l4 l5 l6 c0 c1' c2 c4
 go_wp2_with fail
 go_roundg ((taus s x).length - (kx + 1))
 case measure => have := HKX.out; omega
 case rel => exact ⟨_, upd nn x (kx + 1), by rw [upd_same], by rw [upd_same]; omega, HSC.out, fun z hz => by rw [j0k _ _ hz]; exact HOT.out z hz, HMON.out, by rw [upd_same]; exact H3.out⟩)
 · (
 have hd : decide (y ∈ tt.opn) = false := by simp [hop]
 rw [hd] at g4
 have HOP := hid hop
 clear hop hd h2
 go_wp2_with fail
 have hsc := HTI2.out.scan (by rw [<- HKX.out]; exact HTG.out) (p0o HG.out.right HG.out.srt |>.1 (List.mem_of_getElem? HTG.out)) hyn (by rw [<- HNY.out]; exact H0.out)
 rw [if_neg HOP.out, <- HKX.out] at hsc
 go_roundg ((taus s x).length - (kx + 1))
 case measure => have := HKX.out; omega
 case rel => exact ⟨_, upd nn x (kx + 1), by rw [upd_same], by rw [upd_same]; omega, hsc, fun z hz => by rw [j0k _ _ hz]; exact HOT.out z hz, HMON.out, by rw [upd_same]; exact H2.out⟩)))
 · (
 have hkk : kx = (taus s x).length := by omega
 have HKK := hid hkk
 rcases taus_end s x with he | ⟨st, hst, hne⟩
 · (
 rw [<- HL.out, <- hkk] at he
 have hki : ¬ (kx : Int) < (L.length : Int) := by omega
 have hd : decide (kx < L.length) = false := by simp; omega
 clear he hkk hlt hsr
 go_wp2_with fail
 go_ret
 refine ⟨tt, nn, HTI2.out, HOT.out, HMON.out, .inr ⟨rfl, by rw [<- HKX.out]; exact HKK.out, ?_⟩⟩
 rw [<- HKX.out]
 exact hT.out)
 · (
 rw [<- HL.out, <- hkk] at hst
 have hkl := (List.getElem?_eq_some_iff.1 hst).1
 obtain rfl := hsr.ad (by omega)
 have e0 := hsr.s0 hst
 have hbl := hsr.lt (by omega)
 have hki : (kx : Int) < (L.length : Int) := by omega
 have hb : (st.1 == 0) = false := by simp [hne]
 clear hst hkk hlt hsr hne
 go_wp2_with fail
 go_ret
 refine ⟨tt, nn, HTI2.out, HOT.out, HMON.out, .inr ⟨rfl, by rw [<- HKX.out]; exact HKK.out, ?_⟩⟩
 rw [<- HKX.out]
 exact hT.out)))
end Go.Proofs.YtjchdegapadepaaGreatDoor
namespace Go.Proofs.YtjchdegapadepaaGreatDoor
open Go.RowKit Pl
def stkOf (K : List Nat) (nx : Nat -> Nat) : List E := K.reverse.map (fun (z : Nat) => ((z : Int), (1 : Int), ((nx z : Nat) : Int)))
theorem k0a (x : Nat) (K : List Nat) (nx : Nat -> Nat) : stkOf (x :: K) nx = stkOf K nx ++ [((x : Int), 1, ((nx x : Nat) : Int))] := by simp [stkOf]
theorem p0w {K : List Nat} {nx nx' : Nat -> Nat} (h : ∀ z ∈ K, nx z = nx' z) : stkOf K nx = stkOf K nx' := by
 unfold stkOf
 apply List.map_congr_left
 intro z hz
 rw [h z (by simpa using hz)]
theorem k0k (K : List Nat) (nx : Nat -> Nat) : (stkOf K nx).length = K.length := by simp [stkOf]
inductive FromSt (s : Lts) (n : Nat) (t : TS) : List E -> Nat -> Prop
  | done (nx : Nat -> Nat) (k : Nat) : TI s n t [] nx -> FromSt s n t [] k
  | seen (x : Nat) (K : List Nat) (nx : Nat -> Nat) (k : Nat) : TI s n t (x :: K) nx -> (∀ z ∈ x :: K, nx z <= (taus s z).length) -> 3 * (n - t.met.toNat) + (K.length + 1) + 2 <= k -> FromSt s n t (stkOf K nx ++ [((x : Int), 1, ((nx x : Nat) : Int))]) k
  | come (y : Nat) (K : List Nat) (nx nx' : Nat -> Nat) (k : Nat) : TI s n t K nx -> y < n -> t.num y = 0 -> (∀ g ∈ K, TR s g y) -> (∀ x y', x ∈ K -> y' ∈ (taus s x).take (nx' x) -> y' = y ∨ y' ∈ (taus s x).take (nx x)) -> (∀ z ∈ K, nx' z <= (taus s z).length) ->
      3 * (n - t.met.toNat) + (K.length + 1) <= k -> FromSt s n t (stkOf K nx' ++ [((y : Int), 0, 0)]) k
section
variable {s : Lts} {n : Nat} {t : TS} {K : List Nat} {nx nx' : Nat -> Nat}
theorem Pl.TI.notin {x : Nat} (h : TI s n t (x :: K) nx) : x ∉ K := fun hh => by
  have := (List.pairwise_cons.1 h.gsrt).1 x hh; omega
theorem Pl.TI.opn_len (h : TI s n t K nx) : t.opn.length <= n := by
 have h1 : (t.opn.map Int.ofNat).Nodup := by (
 unfold List.Nodup
 rw [List.pairwise_map]
 exact h.nd.imp (fun hab e => hab (Int.ofNat.inj e)))
 have := q1c h1 (n := n) (fun x hx => by (
 obtain ⟨i, hi, rfl⟩ := List.mem_map.1 hx
 have := h.opn_lt i hi
 show 0 <= (i : Int) /\ (i : Int) < n; omega))
 simpa using this
theorem FromSt.push {x y k : Nat} (h : TI s n t (x :: K) nx) (hr : s.Right) (hs : Srt ltE s.es) (hn : s.st = (n : Int)) (hy : (taus s x)[nx x]? = some y) (h0 : t.num y = 0) (hnx : ∀ z ∈ K, nx z <= (taus s z).length) (hk : 3 * (n - t.met.toNat) + (K.length + 2) <= k) :
    FromSt s n t (stkOf K nx ++ [((x : Int), 1, ((nx x + 1 : Nat) : Int))] ++ [((y : Int), 0, 0)]) k := by
 have hxK := h.notin
 have htx : tau s x y := (p0o hr hs).1 (List.mem_of_getElem? hy)
 have hlt := (List.getElem?_eq_some_iff.1 hy).1
 have e : stkOf K nx ++ [((x : Int), 1, ((nx x + 1 : Nat) : Int))] = stkOf (x :: K) (upd nx x (nx x + 1)) := by
   rw [k0a, upd_same, p0w (nx := upd nx x (nx x + 1)) (nx' := nx) (fun z hz => j0k _ _ (fun e => hxK (e ▸ hz)))]
 rw [e]
 refine .come y (x :: K) nx _ k h (y0k hr hn htx).2 h0 (fun g hg => ?_) (fun x' y' hx' hy' => ?_) (fun z hz => ?_) (by simp; omega)
 · exact (h.tree g hg x (h.gin x List.mem_cons_self) (h.top g hg)).tail htx
 · (
 by_cases e : x' = x
 · (
 subst e
 rw [upd_same] at hy'
 obtain ⟨hl, hg⟩ := List.getElem?_eq_some_iff.1 hy
 rw [List.take_succ_eq_append_getElem hl, hg] at hy'
 rcases List.mem_append.1 hy' with h1 | h1
 · exact .inr h1
 · exact .inl (by simpa using h1))
 · rw [j0k _ _ e] at hy'; exact .inr hy')
 · (
 by_cases e : z = x
 · subst e; rw [upd_same]; omega
 · rw [j0k _ _ e]
   rcases List.mem_cons.1 hz with h1 | h1
   · exact absurd h1 e
   · exact hnx z h1)
theorem k1i {x : Nat} (hr : s.Right) (hs : Srt ltE s.es) (he : nx x = (taus s x).length) : ∀ y, tau s x y -> y ∈ (taus s x).take (nx x) := by
 intro y hy
 rw [he, List.take_length]
 exact (p0o hr hs).2 hy
theorem FromSt.left1 {x g k : Nat} (h : TI s n t (x :: g :: K) nx) (hr : s.Right) (hs : Srt ltE s.es) (he : nx x = (taus s x).length) (hne : t.low x ≠ t.num x) (hnx : ∀ z ∈ g :: K, nx z <= (taus s z).length) (hk : 3 * (n - t.met.toNat) + (K.length + 1) + 2 <= k) :
    FromSt s n { t with low := upd t.low g (min (t.low g) (t.low x)) } (stkOf (g :: K) nx) k := by
 obtain ⟨g', K', e, h2⟩ := h.leave1 (k1i hr hs he) hne
 simp only [List.cons.injEq] at e
 obtain ⟨rfl, rfl⟩ := e
 rw [k0a]
 exact .seen _ K nx k h2 hnx hk
theorem FromSt.left2 {x k : Nat} (h : TI s n t (x :: K) nx) (hr : s.Right) (hs : Srt ltE s.es) (hn : s.st = (n : Int)) (he : nx x = (taus s x).length) (heq : t.low x = t.num x) {Pp Q : List Nat} (ho : t.opn = Pp ++ x :: Q) (hnx : ∀ z ∈ K, nx z <= (taus s z).length) (hk : 3 * (n - t.met.toNat) + K.length + 2 <= k) :
    FromSt s n { t with opn := Q, cls := fun i => if i ∈ Pp ++ [x] then t.found else t.cls i, found := t.found + 1 } (stkOf K nx) k /\ (∀ g ∈ K, t.low g <= t.low x) := by
 obtain ⟨h2, h3⟩ := h.leave2 hr hn (k1i hr hs he) heq ho
 refine ⟨?_, h3⟩
 cases K with
 | nil => exact .done nx k h2
 | cons g K' =>
   rw [k0a]
   exact .seen g K' nx k h2 hnx (by simp at hk ⊢; omega)
theorem z1k {x : Nat} {Pp Q : List Nat} (ho : t.opn = Pp ++ x :: Q) : t.opn.reverse.map Int.ofNat = Q.reverse.map Int.ofNat ++ [(x : Int)] ++ Pp.reverse.map Int.ofNat := by
 rw [ho]; simp
theorem z1n {l : List Nat} {i : Nat} : (i : Int) ∈ l.reverse.map Int.ofNat ↔ i ∈ l := by
 rw [List.mem_map]
 constructor
 · rintro ⟨j, hj, e⟩
   have : j = i := Int.ofNat.inj e
   subst this; simpa using hj
 · intro h; exact ⟨i, by simpa using h, rfl⟩
theorem x2g (x : Nat) (Pp : List Nat) (v : Int) (f : Nat -> Int) : (fun (i : Nat) => if (i : Int) ∈ (x : Int) :: Pp.reverse.map Int.ofNat then v else f i) = fun i => if i ∈ Pp ++ [x] then v else f i := by
 funext i
 have : ((i : Int) ∈ (x : Int) :: Pp.reverse.map Int.ofNat) ↔ i ∈ Pp ++ [x] := by (
 rw [List.mem_cons, z1n, List.mem_append, List.mem_singleton]
 constructor
 · rintro (h | h)
   · exact .inr (by omega)
   · exact .inl h
 · rintro (h | h)
   · exact .inr h
   · exact .inl (by omega))
 simp only [this]
theorem q2h {x : Nat} {Pp Q : List Nat} (hnd : t.opn.Nodup) (ho : t.opn = Pp ++ x :: Q) : (fun (i : Nat) => if (i : Int) ∈ (x : Int) :: Pp.reverse.map Int.ofNat then false else decide (i ∈ t.opn)) = fun (i : Nat) => decide (i ∈ Q) := by
 funext i
 rw [ho] at hnd ⊢
 have hd := List.nodup_append.1 hnd
 have hx := List.nodup_cons.1 hd.2.1
 have : ((i : Int) ∈ (x : Int) :: Pp.reverse.map Int.ofNat) ↔ i = x ∨ i ∈ Pp := by (
 rw [List.mem_cons, z1n]
 constructor
 · rintro (h | h)
   · exact .inl (by omega)
   · exact .inr h
 · rintro (h | h)
   · exact .inl (by omega)
   · exact .inr h)
 by_cases h1 : (i : Int) ∈ (x : Int) :: Pp.reverse.map Int.ofNat
 · (
 rw [if_pos h1]
 have h2 : i ∉ Q := by (
 rcases this.1 h1 with rfl | h3
 · exact hx.1
 · intro h4; exact hd.2.2 i h3 i (by simp [h4]) rfl)
 simp [h2])
 · (
 rw [if_neg h1]
 have h2 : ¬ (i = x ∨ i ∈ Pp) := fun h => h1 (this.2 h)
 have h3 : (i ∈ Pp ++ x :: Q) ↔ i ∈ Q := by (
 simp only [List.mem_append, List.mem_cons]
 constructor
 · rintro (h | h | h)
   · exact absurd (.inr h) h2
   · exact absurd (.inl h) h2
   · exact h
 · intro h; exact .inr (.inr h))
 simp only [h3])
end
end Go.Proofs.YtjchdegapadepaaGreatDoor

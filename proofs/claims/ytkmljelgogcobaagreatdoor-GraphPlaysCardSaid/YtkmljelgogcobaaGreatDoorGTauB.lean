/-
  tauscc.walk.enter: a state is met.
  tauscc.walk.leave: a state is left; a cycle, if the state was its first.
-/
import Derived.Test.YtkmljelgogcobaaGreatDoorTauA
import Derived.BigRegion
import Derived.Deep.LoopGhost
namespace Go.Proofs.YtkmljelgogcobaaGreatDoor
open Go.RowKit Pl

section
variable {w0 w : World} {B WB LB NB IB CB n : Nat} {gp : Value} {low num cls : Nat → Int} {iso : Nat → Bool} {met found : Int} {ol : List Int} {sl : List E} {vo vs : Value}

set_option maxRecDepth 100000 in
set_option maxHeartbeats 2000000 in
theorem enter_any (h : TW w0 w B WB LB NB IB CB n gp low num cls iso met found ol sl vo vs) {y : Nat} (hy : y < n) (hm0 : 0 ≤ met) (hm1 : met ≤ 1000) (hol : ol.length ≤ 1000) :
    Calls Tryz.prog 178 #[.pointer (some ⟨WB, 0, none⟩), .int .i64 y] w fun e w' => ∃ vo', e = .returned (.tuple #[]) ∧
      TW w0 w' B WB LB NB IB CB n gp (upd low y (met + 1)) (upd num y (met + 1)) cls (upd iso y true) (met + 1) found (ol ++ [(y : Int)]) sl vo' vs := by
  obtain ⟨c0, c1, c2, c3, c4, c5, c6, c7, c8⟩ := h.cells
  have f6 := h.fz 6
  obtain ⟨l1, l2, l3, l4, l5, l6⟩ := h.lts
  have hyn : (y : Int) < (n : Int) := by omega
  have H := Lib.hid h
  have H1 := Lib.hid (h.setMet (met + 1))
  obtain ⟨n1, n2, n3, n4⟩ := h.blk.w
  have n1s := n1.symm; have n2s := n2.symm; have n3s := n3.symm; have n4s := n4.symm
  obtain ⟨b1, b2, b3⟩ := h.blk.l; obtain ⟨b4, b5, b6⟩ := h.blk.n
  have b1s := b1.symm
  have hq : IntKind.i64.wrap (met + 1) = met + 1 := IntWalk.i64_in _ (by omega)
  clear h
  go_enter Tryz.func178, Tryz.ntmps178
  go_upto_region 1 with fail
  clear hq c0 c1 c2 c3 c4 c5 c6 c7 c8 f6
  go_cut [] from 4 (fun wx => TW w0 wx B WB LB NB IB CB n gp (upd low y (met + 1)) (upd num y (met + 1)) cls iso (met + 1) found ol sl vo vs)
  case first =>
    obtain ⟨c0, c1, c2, c3, c4, c5, c6, c7, c8⟩ := H1.out.cells
    have g1 := H1.out.low.cell hy; have g2 := H1.out.num.cell hy
    have e1 := H1.out.low.frozen y; have e2 := H1.out.num.frozen y
    obtain ⟨W, hW⟩ : ∃ W, W = w.setCell ⟨WB, 6, none⟩ (.int .i64 (met + 1)) := ⟨_, rfl⟩
    rw [← hW] at c0 c1 c2 c3 c4 c5 c6 c7 c8 g1 g2 e1 e2 H1 ⊢
    clear hW
    go_region_held3 (fun w' => w'.cell? ⟨WB, 1, none⟩ = some (.slice (some ⟨LB, 0, none⟩) n n) ∧ w'.cell? ⟨WB, 2, none⟩ = some (.slice (some ⟨NB, 0, none⟩) n n) ∧ w'.cell? ⟨WB, 6, none⟩ = some (.int .i64 (met + 1))) (go_keep) (fail)
    all_goals
      go_wp2_with fail
      go_meet
      exact ((H1.out.setNum y _).setLow y _).drew
  case rest =>
    have HC := Lib.hid hcut
    obtain ⟨c0, c1, c2, c3, c4, c5, c6, c7, c8⟩ := hcut.cells
    obtain ⟨l1, l2, l3, l4, l5, l6⟩ := hcut.lts
    clear hcut H H1
    go_upto_region 3 with (at_builtin; go_must (refine wpList_lies rfl _ _ _ rfl rowI (by have := HC.out.bsz; simp; omega) rfl (HC.out.opn.alloc _) ⟨wc.heap.size, 0, none⟩ 1 1 [.int .i64 y] rfl rfl (cells1 (by simp [go_sem])) (by simp [Value.oneCell']) (by decide) (by omega) (by unfold maxLen; omega) (wc.heap.size + 1) (by simp) ?_); intro g2 cap2 w7 hown7 hg7 hl7 hlt7; obtain ⟨d0, d1, d2, d3, d4, d5, d6, d7, d8, d9, d10, d11⟩ := TW.wcells (((HC.out.alloc _).grownO hg7).1.trans (HC.out.alloc _).wb))
    have hp := TW.pushO (m := ol.length + 1) (c := cap2) (ol' := ol ++ [(y : Int)]) (HC.out.alloc _) (by rw [List.length_append, List.flatMap_append]; exact hown7) hg7 (hl7.imp_right (fun e => by simp; omega))
    have HP := Lib.hid hp
    clear d0 d1 d2 d3 d4 d5 d6 d7 d8 d9 d10 d11 c0 c1 c2 c3 c4 c5 c6 c7 c8 l1 l2 l3 l4 l5 l6 hown7 hg7 hl7 hlt7
    obtain ⟨c0, c1, c2, c3, c4, c5, c6, c7, c8⟩ := hp.cells
    obtain ⟨l1, l2, l3, l4, l5, l6⟩ := hp.lts
    have g1 := hp.iso.cell hy
    have e1 := hp.iso.frozen y
    clear hp
    obtain ⟨W, hW⟩ : ∃ W, W = w7.setCell ⟨WB, 3, none⟩ (.slice (some ⟨g2, 0, none⟩) (ol.length + 1) cap2) := ⟨_, rfl⟩
    rw [← hW] at c0 c1 c2 c3 c4 c5 c6 c7 c8 g1 e1 l1 l2 l3 l4 l5 l6 HP ⊢
    clear hW
    go_wp2
    go_end0
    exact ⟨_, rfl, HP.out.setIso y true⟩
end
end Go.Proofs.YtkmljelgogcobaaGreatDoor

namespace Go.Proofs.YtkmljelgogcobaaGreatDoor
open Go.RowKit Pl

section
variable {w0 w : World} {B WB LB NB IB CB n : Nat} {gp : Value} {low num cls : Nat → Int} {iso : Nat → Bool} {met found : Int} {sl : List E} {vo vs : Value}

set_option maxRecDepth 100000 in
set_option maxHeartbeats 2000000 in
theorem leave_no {ol : List Int} (h : TW w0 w B WB LB NB IB CB n gp low num cls iso met found ol sl vo vs) {y : Nat} (hy : y < n) (hne : low y ≠ num y) :
    Calls Tryz.prog 180 #[.pointer (some ⟨WB, 0, none⟩), .int .i64 y] w fun e w' => e = .returned (.tuple #[]) ∧
      TW w0 w' B WB LB NB IB CB n gp low num cls iso met found ol sl vo vs := by
  obtain ⟨c0, c1, c2, c3, c4, c5, c6, c7, c8⟩ := h.cells
  obtain ⟨l1, l2, l3, l4, l5, l6⟩ := h.lts
  have hyn : (y : Int) < (n : Int) := by omega
  have g1 := h.low.cell hy; have g2 := h.num.cell hy
  obtain ⟨a, ha⟩ : ∃ a, a = low y := ⟨_, rfl⟩
  obtain ⟨b, hb⟩ : ∃ b, b = num y := ⟨_, rfl⟩
  rw [← ha] at g1 hne; rw [← hb] at g2 hne
  have hq : (a != b) = true := by simp [hne]
  have H := Lib.hid h
  clear h ha hb hne c0 c3 c4 c5 c6 c7 c8
  go_enter Tryz.func180, Tryz.ntmps180
  go_wp2_with fail
  go_quiet (fail)
  go_wp2
  refine bodyPost_ret (results_none rfl _ _ _) rfl ?_
  exact ⟨rfl, H.out.drewN _⟩

theorem upd_mem {β : Type} (f : Nat → β) (v : β) (z : Nat) (D : List Int) : upd (fun (i : Nat) => if (i : Int) ∈ D then v else f i) z v = fun (i : Nat) => if (i : Int) ∈ (z : Int) :: D then v else f i := by
  funext i
  unfold upd
  by_cases h : i = z
  · subst h; simp
  · rw [if_neg h]
    have : ((i : Int) ∈ (z : Int) :: D) ↔ (i : Int) ∈ D := by simp; omega
    simp only [this]

set_option maxRecDepth 100000 in
set_option maxHeartbeats 4000000 in
theorem leave_yes {Qr Pr : List Int} {y : Nat} (h : TW w0 w B WB LB NB IB CB n gp low num cls iso met found (Qr ++ [(y : Int)] ++ Pr) sl vo vs) (hy : y < n) (heq : low y = num y) (hP : ∀ z ∈ Pr, 0 ≤ z ∧ z < (n : Int) ∧ z ≠ (y : Int)) (hl : (Qr ++ [(y : Int)] ++ Pr).length ≤ 1000) (hf : 0 ≤ found ∧ found ≤ 1000) :
    Calls Tryz.prog 180 #[.pointer (some ⟨WB, 0, none⟩), .int .i64 y] w fun e w' => ∃ vo', e = .returned (.tuple #[]) ∧
      TW w0 w' B WB LB NB IB CB n gp low num (fun (i : Nat) => if (i : Int) ∈ (y : Int) :: Pr then found else cls i) (fun (i : Nat) => if (i : Int) ∈ (y : Int) :: Pr then false else iso i) met (found + 1) Qr sl vo' vs := by
  obtain ⟨c0, c1, c2, c3, c4, c5, c6, c7, c8⟩ := h.cells
  obtain ⟨l1, l2, l3, l4, l5, l6⟩ := h.lts
  have hyn : (y : Int) < (n : Int) := by omega
  have g1 := h.low.cell hy; have g2 := h.num.cell hy
  rw [heq] at g1
  obtain ⟨a, ha⟩ : ∃ a, a = num y := ⟨_, rfl⟩
  rw [← ha] at g1 g2
  have hq : (a != a) = false := by simp
  obtain ⟨n1, n2, n3, n4⟩ := h.blk.w
  have n1s := n1.symm; have n2s := n2.symm; have n3s := n3.symm; have n4s := n4.symm
  have H := Lib.hid h; have HP := Lib.hid hP
  have hf0 := hf.1; have hf1 := hf.2
  clear h ha heq hP hf c0 c3 c4 c5 c6 c7 c8
  go_enter Tryz.func180, Tryz.ntmps180
  go_wp2_with fail
  go_quiet (fail)
  have H1 := Lib.hid (H.out.drewN nq)
  clear g1 g2 c1 c2 H
  go_wp2_with fail
  go_loopg [4] Pr.length (fun k _ wr => ∃ (R D : List Int) (vo' : Value), k = R.length ∧ Pr = R ++ D ∧ TW w0 wr B WB LB NB IB CB n gp low num (fun (i : Nat) => if (i : Int) ∈ D then found else cls i) (fun (i : Nat) => if (i : Int) ∈ D then false else iso i) met found (Qr ++ [(y : Int)] ++ R) sl vo' vs)
  case atStart => exact ⟨Pr, [], vo, rfl, by simp, by simpa using H1.out⟩
  case round =>
    obtain ⟨R, D, vo', rfl, hPr, htw⟩ := hrel
    clear H1
    have key : ∃ (X : List Int) (z : Nat), Qr ++ [(y : Int)] ++ R = X ++ [(z : Int)] ∧ z < n ∧ ((R = [] ∧ z = y ∧ X = Qr) ∨ (∃ R', R = R' ++ [(z : Int)] ∧ z ≠ y ∧ X = Qr ++ [(y : Int)] ++ R')) := by
      rcases List.eq_nil_or_concat R with rfl | ⟨R', z, rfl⟩
      · exact ⟨Qr, y, by simp, hy, .inl ⟨rfl, rfl, rfl⟩⟩
      · have hz := HP.out z (by rw [hPr]; simp)
        refine ⟨Qr ++ [(y : Int)] ++ R', z.toNat, by rw [show ((z.toNat : Nat) : Int) = z by omega]; simp, by omega, .inr ⟨R', by rw [show ((z.toNat : Nat) : Int) = z by omega]; simp, by omega, rfl⟩⟩
    obtain ⟨X, z, hX, hz, hcase⟩ := key
    have hXl : X.length + 1 ≤ 1000 := by
      have h1 := congrArg List.length hX
      rw [hPr] at hl
      simp at h1 hl
      omega
    rw [hX] at htw
    obtain ⟨a3, c3', g3, rfl, hcc, hcm, hsl, hgb⟩ := slAt_own lenI htw.opn
    obtain rfl := hsl.ad (by simp)
    have hcz : wr.cell? ⟨g3, X.length, none⟩ = some (.int .i64 z) := by
      have := hsl.ci (i := X.length) (x := (z : Int)) (by simp)
      simpa using this
    have hgl := hsl.lt (by simp)
    have hgB : B ≤ g3 := hgb (by simp)
    have hblk := htw.blk.hi
    rw [List.length_append, List.length_singleton] at htw hcc
    obtain ⟨p, hp⟩ : ∃ p, p = X.length := ⟨_, rfl⟩
    obtain ⟨q, hqq⟩ : ∃ q, q = p + 1 := ⟨_, rfl⟩
    rw [← hp, ← hqq] at htw hcc
    rw [← hp] at hcz
    obtain ⟨c0, c1, c2, c3, c4, c5, c6, c7, c8⟩ := htw.cells
    obtain ⟨l1, l2, l3, l4, l5, l6⟩ := htw.lts
    have w1 : IntKind.i64.wrap ((q : Int) - 1) = (p : Int) := by rw [IntWalk.i64_in _ (by omega)]; omega
    have w2 : (0 : Int) ≤ (p : Int) := by omega
    have w3 : (p : Int) < (q : Int) := by omega
    have w4 : (p : Int) ≤ (c3' : Int) := by omega
    have w5 : ¬ c3' = 0 := by omega
    have hzn : (z : Int) < (n : Int) := by omega
    have gf := htw.fz 3
    have HT := Lib.hid htw; have HPR := Lib.hid hPr; have HX := Lib.hid hX; have HCS := Lib.hid hcase; have HPP := Lib.hid hp; have HQQ := Lib.hid hqq
    clear htw hPr hX hcase hsl hgb hp hqq
    go_wp2_with fail
    go_quiet (fail)
    go_wp2_with fail
    go_region
    have h2 : TW w0 ((wr.drewN (nq + 1)).setCell ⟨WB, 3, none⟩ (.slice (some ⟨g3, 0, none⟩) p c3')) B WB LB NB IB CB n gp low num (fun (i : Nat) => if (i : Int) ∈ D then found else cls i) (fun (i : Nat) => if (i : Int) ∈ D then false else iso i) met found X sl (.slice (some ⟨g3, 0, none⟩) p c3') vs := by
      have h3 := (HT.out.drewN (nq + 1)).popO (by rw [HQQ.out, HPP.out])
      rw [← HPP.out] at h3
      exact h3
    obtain ⟨W2, hW2⟩ : ∃ W2, W2 = (wr.drewN (nq + 1)).setCell ⟨WB, 3, none⟩ (.slice (some ⟨g3, 0, none⟩) p c3') := ⟨_, rfl⟩
    rw [← hW2] at h2 ⊢
    clear hW2 c0 c1 c2 c3 c4 c5 c6 c7 c8 l1 l2 l3 l4 l5 l6 hcz hgl w1 w2 w3 w4 w5 gf
    obtain ⟨c0, c1, c2, c3, c4, c5, c6, c7, c8⟩ := h2.cells
    obtain ⟨l1, l2, l3, l4, l5, l6⟩ := h2.lts
    have g1 := h2.iso.cell hz; have e1 := h2.iso.frozen z
    have g2 := h2.cls.cell hz; have e2 := h2.cls.frozen z
    obtain ⟨b4, b5, b6⟩ := h2.blk.n
    have b6s := b6.symm
    have H2 := Lib.hid h2
    clear h2 c0 c1 c2 c3 c6 c8
    obtain ⟨x1, hx1⟩ : ∃ x1, x1 = (if (z : Int) ∈ D then found else cls z) := ⟨_, rfl⟩
    obtain ⟨x2, hx2⟩ : ∃ x2, x2 = (if (z : Int) ∈ D then false else iso z) := ⟨_, rfl⟩
    rw [← hx1] at g2; rw [← hx2] at g1
    clear hx1 hx2
    go_wp2_with fail
    go_region
    have h3 := ((H2.out.setIso z false).setCls z found).drew
    rw [upd_mem, upd_mem] at h3
    obtain ⟨W3, hW3⟩ : ∃ W3, W3 = ((W2.setCell ⟨IB, z, none⟩ (.bool false)).setCell ⟨CB, z, none⟩ (.int .i64 found)).drew := ⟨_, rfl⟩
    rw [← hW3] at h3 ⊢
    clear hW3 c4 c5 c7 l1 l2 l3 l4 l5 l6 g1 g2 e1 e2
    obtain ⟨c0, c1, c2, c3, c4, c5, c6, c7, c8⟩ := h3.cells
    obtain ⟨l1, l2, l3, l4, l5, l6⟩ := h3.lts
    have f7 := h3.fz 7
    have H3 := Lib.hid h3
    clear h3 c0 c1 c2 c3 c4 c5 c6 c8
    rcases HCS.out with ⟨hR, hzy, hXQ⟩ | ⟨R', hR, hzy, hXQ⟩
    · have hb : ((z : Int) == (y : Int)) = true := by simp [hzy]
      have hw : IntKind.i64.wrap (found + 1) = found + 1 := IntWalk.i64_in _ (by omega)
      have HR := Lib.hid hR; have HZ := Lib.hid hzy; have HXQ := Lib.hid hXQ
      clear hR hzy hXQ
      go_wp2
      go_end0
      have h4 := H3.out.setFound (found + 1)
      have hD : D = Pr := by have := HPR.out; rw [HR.out] at this; simpa using this.symm
      rw [HXQ.out, HZ.out, hD] at h4
      exact ⟨_, rfl, h4⟩
    · have hb : ((z : Int) == (y : Int)) = false := by simp; omega
      have hk : R'.length < R.length := by rw [hR]; simp
      have HR := Lib.hid hR; have HXQ := Lib.hid hXQ
      clear hR hzy hXQ
      go_wp2
      go_roundg R'.length
      case measure => exact hk
      case rel => exact ⟨R', (z : Int) :: D, _, rfl, by rw [HPR.out, HR.out]; simp, by rw [← HXQ.out]; exact H3.out⟩
end
end Go.Proofs.YtkmljelgogcobaaGreatDoor

/-
  Lemmas.
-/
import Derived.Test.YtebmlhaoeldhkaaGreatDoorGBkBo
import Derived.BigRegion
import Derived.Test.YtebmlhaoeldhkaaGreatDoorGBkF
import Derived.Deep.RegionLaw
import Derived.Test.YtebmlhaoeldhkaaGreatDoorGBkBop
import Derived.Test.YtebmlhaoeldhkaaGreatDoorGBkWg
import Derived.Test.YtebmlhaoeldhkaaGreatDoorBkAp
import Derived.Test.YtebmlhaoeldhkaaGreatDoorGBkIg
import Derived.Test.YtebmlhaoeldhkaaGreatDoorGBkSg
import Derived.Test.YtebmlhaoeldhkaaGreatDoorGBrV
import Derived.Test.YtebmlhaoeldhkaaGreatDoorGAs
import Derived.Test.YtebmlhaoeldhkaaGreatDoorTauI
import Derived.Test.YtebmlhaoeldhkaaGreatDoorGTauJ
import Derived.Deep.RegionHeld3
import Derived.Deep.QuietTactic
import Derived.BigQuiet
import Derived.IntWalk
import Derived.Test.YtebmlhaoeldhkaaGreatDoorGTold
import Derived.Test.YtebmlhaoeldhkaaGreatDoorGCompact
import Derived.Test.YtebmlhaoeldhkaaGreatDoorGFault
import Derived.Test.YtebmlhaoeldhkaaGreatDoorGPl12
import Derived.Deep.Cut
import Derived.Deep.CutRange
import Derived.Deep.DeepMust
namespace Go.Proofs.YtebmlhaoeldhkaaGreatDoor
open Go.RowKit Pl
end Go.Proofs.YtebmlhaoeldhkaaGreatDoor
namespace Go.Proofs.YtebmlhaoeldhkaaGreatDoor
open Go.RowKit Pl
end Go.Proofs.YtebmlhaoeldhkaaGreatDoor
namespace Go.Proofs.YtebmlhaoeldhkaaGreatDoor
open Go.RowKit Pl
end Go.Proofs.YtebmlhaoeldhkaaGreatDoor
namespace Go.Proofs.YtebmlhaoeldhkaaGreatDoor
open Go.RowKit Pl
def bkAll (I B S E N W : KS) (D : List Rw) : List Rw := I.ks ++ (B.ks ++ (S.ks ++ (E.ks ++ (N.ks ++ (W.ks ++ D)))))
def Bk (w0 w : World) (bb : Nat) (Z R : List Rw) : Prop :=
  ∃ (I B S E N W : KS) (D : List Rw), Rws w0 w (bkRows bb (bkL I B S E N W) (D ++ R)) ∧ FlOk 3 1 encI I ∧ FlOk 4 1 encB B ∧ FlOk 117 2 encS S ∧ FlOk 74 3 encE E ∧
    NeOk 3 31 1 encI (bkAll I B S E N W D) N ∧ NeOk 117 78 2 encS (bkAll I B S E N W D) W ∧ ∀ r ∈ Z, r ∈ bkAll I B S E N W D
section
variable {w0 w w' : World} {bb : Nat} {Z R : List Rw}
theorem mem_bkAll {I B S E N W : KS} {D R : List Rw} {r : Rw} (h : r ∈ bkAll I B S E N W D) : r ∈ bkRows bb (bkL I B S E N W) (D ++ R) := by
  have hk : ∀ {X : KS} {T : TypeId} {j : Nat}, (bkL I B S E N W)[j]? = some (X.kd T) → r ∈ X.ks → r ∈ bkRows bb (bkL I B S E N W) (D ++ R) := fun hj hr => (mem_bk hj).2.2 r (List.mem_append_left _ hr)
  unfold bkAll at h
  simp only [List.mem_append] at h
  rcases h with h | h | h | h | h | h | h
  · exact hk (j := 0) rfl h
  · exact hk (j := 3) rfl h
  · exact hk (j := 4) rfl h
  · exact hk (j := 5) rfl h
  · exact hk (j := 8) rfl h
  · exact hk (j := 10) rfl h
  · exact List.mem_cons_of_mem _ (List.mem_append_right _ (List.mem_append_left _ h))
theorem Bk.apart (h : Bk w0 w bb Z R) : Calls Tryz.prog 16 #[.pointer (some ⟨bb, 0, none⟩)] w fun e w' => e = .returned (.bool true) ∧ Below w0.heap.size w0 w' := by
  obtain ⟨I, B, S, E, N, W, D, h1, h2, h3, h4, h5, h6, h7, _⟩ := h
  exact apart_any h1 h2 h3 h4 h5 h6 h7 (fun r hr => mem_bkAll hr)
theorem Bk.bel (h : Bk w0 w bb Z R) : Below w0.heap.size w0 w := by
  obtain ⟨I, B, S, E, N, W, D, h1, _⟩ := h
  exact h1.bel
theorem Bk.call (h : Bk w0 w bb Z R) (hB : Below w.heap.size w w') : Bk w0 w' bb Z R := by
  obtain ⟨I, B, S, E, N, W, D, h1, h2⟩ := h
  exact ⟨I, B, S, E, N, W, D, h1.call hB, h2⟩
theorem Bk.own (h : Bk w0 w bb Z R) {r : Rw} (hr : r ∈ Z ∨ r ∈ R) : w.ownsRow w0.heap.size r.T r.k r.v r.n r.xs := by
  obtain ⟨I, B, S, E, N, W, D, h1, _, _, _, _, _, _, h8⟩ := h
  rcases hr with hr | hr
  · exact h1.own r (mem_bkAll (h8 r hr))
  · exact h1.own r (List.mem_cons_of_mem _ (List.mem_append_right _ (List.mem_append_right _ hr)))
theorem bk_tail (I B S E N W : KS) (D : List Rw) {R R' : List Rw} (hp : R.Perm R') : (bkRows bb (bkL I B S E N W) (D ++ R)).Perm (bkRows bb (bkL I B S E N W) (D ++ R')) :=
  ((List.Perm.append_left _ (List.Perm.append_left _ hp))).cons _
theorem Bk.perm (h : Bk w0 w bb Z R) {R' : List Rw} (hp : R.Perm R') : Bk w0 w bb Z R' := by
  obtain ⟨I, B, S, E, N, W, D, h1, h2⟩ := h
  exact ⟨I, B, S, E, N, W, D, h1.perm (bk_tail I B S E N W D hp), h2⟩
theorem Bk.add (h : Bk w0 w bb Z R) {T : TypeId} {k n : Nat} {v : Value} {xs : List Value} (hB : Below w.heap.size w w') (ho : w'.ownsRow w.heap.size T k v n xs) : Bk w0 w' bb Z (⟨T, k, v, n, xs⟩ :: R) := by
  obtain ⟨I, B, S, E, N, W, D, h1, h2⟩ := h
  refine ⟨I, B, S, E, N, W, D, (h1.add hB ho).perm ?_, h2⟩
  have hp := List.perm_middle (a := (⟨T, k, v, n, xs⟩ : Rw)) (l₁ := bkBox bb (bkL I B S E N W) :: ((bkL I B S E N W).flatMap Kd.rs ++ D)) (l₂ := R)
  unfold bkRows
  simp only [List.append_assoc, List.cons_append] at hp ⊢
  exact hp.symm
theorem Bk.join (h : Bk w0 w bb Z R) {N : List Rw} (hN : Rws w w' N) : Bk w0 w' bb Z (N ++ R) := by
  obtain ⟨I, B, S, E, M, W, D, h1, h2⟩ := h
  refine ⟨I, B, S, E, M, W, D, (h1.join hN).perm ?_, h2⟩
  have hp := perm_rot N (bkBox bb (bkL I B S E M W) :: (bkL I B S E M W).flatMap Kd.rs) D R
  have hq : ((D ++ N) ++ R).Perm (D ++ (N ++ R)) := by rw [List.append_assoc]
  unfold bkRows
  simp only [List.append_assoc, List.cons_append] at hp ⊢
  exact hp
theorem Bk.sub (h : Bk w0 w bb Z R) {R' : List Rw} (hs : R'.Sublist R) : Bk w0 w bb Z R' := by
  obtain ⟨I, B, S, E, N, W, D, h1, h2⟩ := h
  exact ⟨I, B, S, E, N, W, D, h1.sub ((List.Sublist.append_left (List.Sublist.append_left hs _) _).cons_cons _), h2⟩
theorem Bk.start (w : World) : Bk w (w.alloc (.cells #[.slice none 0 0, .slice none 0 0, .slice none 0 0, .slice none 0 0, .slice none 0 0, .slice none 0 0, .slice none 0 0, .slice none 0 0, .slice none 0 0, .slice none 0 0, .slice none 0 0, .slice none 0 0, .slice none 0 0, .slice none 0 0, .slice none 0 0, .slice none 0 0, .slice none 0 0, .slice none 0 0, .slice none 0 0, .slice none 0 0, .slice none 0 0, .slice none 0 0] 46)) w.heap.size [] [] := by
  refine ⟨.zero, .zero, .zero, .zero, .zero, .zero, [], ?_, .zero, .zero, .zero, .zero, .zero, .zero, fun r hr => by cases hr⟩
  have h0 := Rws.nil (Below.refl w.heap.size w)
  have h1 := (((((((((((((((((((((h0.addNil 38 1).addNil 38 1).addNil 35 1).addNil 35 1).addNil 34 1).addNil 34 1).addNil 161 1).addNil 161 1).addNil 159 1).addNil 159 1).addNil 22 1).addNil 22 1).addNil 78 1).addNil 78 1).addNil 58 1).addNil 58 1).addNil 157 1).addNil 157 1).addNil 155 1).addNil 155 1).addNil 31 1).addNil 31 1
  have h2 := h1.addLit #[.slice none 0 0, .slice none 0 0, .slice none 0 0, .slice none 0 0, .slice none 0 0, .slice none 0 0, .slice none 0 0, .slice none 0 0, .slice none 0 0, .slice none 0 0, .slice none 0 0, .slice none 0 0, .slice none 0 0, .slice none 0 0, .slice none 0 0, .slice none 0 0, .slice none 0 0, .slice none 0 0, .slice none 0 0, .slice none 0 0, .slice none 0 0, .slice none 0 0] 46 (k := 22) (n := 1) (by decide) rfl
  exact h2
end
theorem Rws.bkTake {w0 w : World} {kds : List Kd} {j bb : Nat} {D R : List Rw} {SL : TypeId} {K : KS} {r : Rw} (h : Rws w0 w (bkRows bb kds (D ++ r :: R))) (hj : kds[j]? = some (K.kd SL)) (hl : K.ks.length = K.ws.length) :
    Rws w0 w (bkBox bb kds :: ⟨SL, 1, K.o, K.ks.length, K.ks.map (·.v)⟩ :: ⟨SL, 1, K.p, K.ks.length, K.ws.map (·.v)⟩ :: r :: ((K.ks ++ K.ws) ++ bkX kds j (D ++ R))) := by
  refine (h.perm (bkRows_perm hj)).perm ?_
  unfold KS.kd Kd.rs bkX
  simp only [List.length_map, List.cons_append]
  rw [← hl]
  refine ((List.Perm.cons _ ?_).cons _).cons _
  have hp := List.perm_middle (a := r) (l₁ := (K.ks ++ K.ws) ++ ((kds.take j ++ kds.drop (j + 1)).flatMap Kd.rs ++ D)) (l₂ := R)
  simp only [List.append_assoc] at hp ⊢
  exact hp
theorem Rws.bkGive {w0 w : World} {kds : List Kd} {j bb : Nat} {D R : List Rw} {SL : TypeId} {K : KS} {r u : Rw} {o' p' : Value} {cs : List Value} {n : Nat} (hj : kds[j]? = some (K.kd SL)) (hl : K.ks.length = K.ws.length) (hc : cs = ((bkCells kds).set (j * 2) o').set (j * 2 + 1) p') (hn : n = K.ks.length + 1)
    (h : Rws w0 w (⟨46, 22, .slice (some ⟨bb, 0, none⟩) 1 1, 1, cs⟩ :: ⟨SL, 1, o', n, K.ks.map (·.v) ++ [r.v]⟩ :: ⟨SL, 1, p', n, K.ws.map (·.v) ++ [u.v]⟩ :: r :: u :: ((K.ks ++ K.ws) ++ bkX kds j (D ++ R)))) :
    Rws w0 w (bkRows bb (kds.set j ((KS.mk o' p' (K.ks ++ [r]) (K.ws ++ [u])).kd SL)) (D ++ R)) := by
  refine h.perm (List.Perm.trans ?_ (bkRows_perm' (bb := bb) (D := D ++ R) (K' := (KS.mk o' p' (K.ks ++ [r]) (K.ws ++ [u])).kd SL) hj).symm)
  have e : bkBox bb (kds.set j ((KS.mk o' p' (K.ks ++ [r]) (K.ws ++ [u])).kd SL)) = ⟨46, 22, .slice (some ⟨bb, 0, none⟩) 1 1, 1, cs⟩ := by
    unfold bkBox
    rw [bkCells_set hj, hc]
    rfl
  rw [e]
  unfold KS.kd Kd.rs
  simp only [List.map_append, List.map_cons, List.map_nil, List.length_append, List.length_map, List.length_cons, List.length_nil, List.cons_append]
  rw [hn, ← hl]
  refine ((List.Perm.cons _ ?_).cons _).cons _
  have h1 := List.perm_middle (a := r) (l₁ := K.ks) (l₂ := K.ws ++ (u :: bkX kds j (D ++ R)))
  have h2 := List.perm_middle (a := u) (l₁ := K.ks ++ K.ws) (l₂ := bkX kds j (D ++ R))
  simp only [List.append_assoc, List.cons_append, List.nil_append] at h1 h2 ⊢
  exact (h2.symm.cons r).trans h1.symm
theorem mem_dmono {I B S E N W : KS} {D : List Rw} {r x : Rw} (h : x ∈ bkAll I B S E N W D) : x ∈ bkAll I B S E N W (D ++ [r]) := by
  unfold bkAll at *
  simp only [List.mem_append] at *
  rcases h with h | h | h | h | h | h | h <;> simp [h]
theorem mem_monoI {I B S E N W : KS} {D : List Rw} {r u x : Rw} {o' p' : Value} (h : x ∈ bkAll I B S E N W D) : x ∈ bkAll (KS.mk o' p' (I.ks ++ [r]) (I.ws ++ [u])) B S E N W D := by
  unfold bkAll at *
  simp only [List.mem_append] at *
  rcases h with h | h | h | h | h | h | h <;> simp [h]
theorem mem_newI {I B S E N W : KS} {D : List Rw} {r u : Rw} {o' p' : Value} : r ∈ bkAll (KS.mk o' p' (I.ks ++ [r]) (I.ws ++ [u])) B S E N W D := by
  unfold bkAll
  simp
theorem Bk.giveI {w0 w : World} {bb n : Nat} {Z R : List Rw} {v : Value} {ys : List Int} {xs : List Value} (h : Bk w0 w bb Z (⟨3, 1, v, n, xs⟩ :: R)) (hx : xs = ys.flatMap encI) (hn : n = ys.length) (hl : n ≤ 500000) :
    Calls Tryz.prog 15 #[.pointer (some ⟨bb, 0, none⟩), v] w fun e w' => e = .returned (.tuple #[]) ∧ Bk w0 w' bb (⟨3, 1, v, n, xs⟩ :: Z) R := by
  obtain ⟨I, B, S, E, N, W, D, h1, h2, h3, h4, h5, h6, h7, h8⟩ := h
  subst hx
  have hf : FlOk 3 1 encI I := by assumption
  have hj : (bkL I B S E N W)[0]? = some (I.kd 31) := rfl
  have ht := h1.bkTake hj hf.hl
  have hv1 : v.oneCell' = true := by
    obtain ⟨a, c, e, _⟩ := ht.shape (r := ⟨3, 1, v, n, ys.flatMap encI⟩) (by simp)
    dsimp only at e
    rw [e]; rfl
  obtain ⟨q1, q2⟩ := bkCells_at hj
  refine (addI_any ht (by rw [bkCells_len]; rfl) q1 q2 hn hl hf.h4 hv1).mono ?_
  rintro e w' ⟨rfl, hp⟩
  refine ⟨rfl, ?_⟩
  rcases hp with ⟨_, rfl⟩ | ⟨hm, o', p', u, hr⟩
  · refine ⟨I, B, S, E, N, W, D ++ [⟨3, 1, v, n, ys.flatMap encI⟩], by rw [List.append_assoc]; exact h1, h2, h3, h4, h5, h6.mono (fun x hx => mem_dmono hx), h7.mono (fun x hx => mem_dmono hx), fun x hx => ?_⟩
    rcases List.mem_cons.1 hx with rfl | hx
    · unfold bkAll; simp
    · exact mem_dmono (h8 x hx)
  · have hb := Rws.bkGive (r := ⟨3, 1, v, n, ys.flatMap encI⟩) (u := ⟨3, 1, u, n, ys.flatMap encI⟩) hj hf.hl rfl rfl hr
    have hfp : FlOk 3 1 encI ⟨o', p', I.ks ++ [⟨3, 1, v, n, ys.flatMap encI⟩], I.ws ++ [⟨3, 1, u, n, ys.flatMap encI⟩]⟩ := hf.push hm (ys := ys) rfl rfl rfl rfl (by omega) hn hn rfl rfl
    refine ⟨_, B, S, E, N, W, D, hb, hfp, h3, h4, h5, h6.mono (fun x hx => mem_monoI hx), h7.mono (fun x hx => mem_monoI hx), fun x hx => ?_⟩
    rcases List.mem_cons.1 hx with rfl | hx
    · exact mem_newI
    · exact mem_monoI (h8 x hx)
end Go.Proofs.YtebmlhaoeldhkaaGreatDoor
namespace Go.Proofs.YtebmlhaoeldhkaaGreatDoor
open Go.RowKit Pl
def Flt2 (w : World) (l : ByteArray) (p : Addr) (v : Value) : Prop :=
  ∃ vi, FaultAt w v l vi ∧ FaultAt w vi sysName (.iface 323 (.pointer (some p)))
theorem Flt2.below {w w' : World} {l : ByteArray} {p : Addr} {v : Value} (h : Flt2 w l p v) (hB : Below w.heap.size w w') : Flt2 w' l p v := by
  obtain ⟨vi, h1, h2⟩ := h
  exact ⟨vi, h1.below hB, h2.below hB⟩
theorem Flt2.shape {w : World} {l : ByteArray} {p : Addr} {v : Value} (h : Flt2 w l p v) : ∃ fb, v = .iface 87 (.pointer (some ⟨fb, 0, none⟩)) := by
  obtain ⟨vi, h1, _⟩ := h
  obtain ⟨fb, e, _⟩ := h1.ex
  exact ⟨fb, e⟩
set_option maxRecDepth 100000 in
theorem brClassesNo2_any {p : Addr} {s : Lts} (h : ¬ s.Right) {a : Option Addr} {b off c : Nat} {w : World} (hG : GErr 0 p w) (hT : ErrType w) (hS : SlAt encE 3 w a b off s.es) :
    Calls Tryz.prog 11 #[.agg #[.int .i64 s.st, .int .i64 s.lb, .int .i64 s.s0, .slice a s.es.length c]] w fun e w' => ∃ v, e = .returned (.tuple #[.slice none 0 0, v]) ∧ Flt2 w' brName p v ∧ Below w.heap.size w w' := by
  have hB0 := (Below.refl w.heap.size w).alloc (Nat.le_refl _) (Obj.cells #[.int .i64 s.st, .int .i64 s.lb, .int .i64 s.s0, .slice a s.es.length c] 24)
  have HCK := Lib.hid (check_no h a b off c _ (hG.below hB0) (hS.below hB0 (Nat.le_refl _)))
  have HB0 := Lib.hid hB0; have HT := Lib.hid hT
  clear hB0 hS hG hT h
  go_enter Tryz.func11, Tryz.ntmps11
  go_wp2_with fail
  refine HCK.out.mono ?_
  rintro e w1 ⟨v, rfl, hF, hB1⟩
  have HF := Lib.hid hF
  obtain ⟨fb, rfl, hfb⟩ := hF.ex
  have HB1 := Lib.hid (HB0.out.trans (hB1.mono (by simp)))
  have HA := Lib.hid (faultAs_any brName (HT.out.below HB1.out) hfb)
  clear hB1 hfb hF HB0 HCK
  unfold brName at HA
  go_wp2_with fail
  refine HA.out.mono ?_
  rintro e w2 ⟨v, rfl, hF2, hB2⟩
  have HR : Hid (Flt2 w2 brName p v) := Lib.hid ⟨_, hF2, HF.out.below hB2⟩
  have HB2 := Lib.hid (HB1.out.trans (hB2.mono HB1.out.size))
  clear hF2 hB2 HB1 HA HF
  go_wp2_with fail
  go_ret2
  exact ⟨v, rfl, HR.out, HB2.out⟩
end Go.Proofs.YtebmlhaoeldhkaaGreatDoor
namespace Go.Proofs.YtebmlhaoeldhkaaGreatDoor
open Go.RowKit Pl
open Lib (hid)
def marksE : List E := [(-7, 0, 0), (-7, 1, 0), (-7, 2, 0)]
structure LentS (w : World) (base g cap : Nat) (es : List E) : Prop where
  own : w.ownsRow base 74 3 (.slice (some ⟨g, 0, none⟩) (es.length + 3) cap) (es.length + 3) ((es ++ marksE).flatMap encE)
theorem LentS.below {w w' : World} {base g cap : Nat} {es : List E} (h : LentS w base g cap es) (hB : Below w.heap.size w w') : LentS w' base g cap es := ⟨own_below h.own hB⟩
theorem LentS.all {w : World} {base g cap : Nat} {es : List E} (h : LentS w base g cap es) : SlAt encE 3 w (some ⟨g, 0, none⟩) g 0 (es ++ marksE) ∧ es.length + 3 ≤ cap ∧ cap ≤ maxLen ∧ base ≤ g := by
  have h2 : w.ownsRow base 74 3 (.slice (some ⟨g, 0, none⟩) (es.length + 3) cap) (es ++ marksE).length ((es ++ marksE).flatMap encE) := by
    rw [List.length_append]; exact h.own
  obtain ⟨a, c, b, hv, h3, h4, h5, h6⟩ := slAt_own lenE h2
  simp only [Value.slice.injEq] at hv
  obtain ⟨rfl, _, rfl⟩ := hv
  have h7 := h5.ad (by simp [marksE])
  simp at h7
  subst h7
  exact ⟨h5, by simpa [marksE] using h3, h4, h6 (by simp [marksE])⟩
theorem SlAt.preE {α : Type} {enc : α → List Value} {k : Nat} {w : World} {a : Option Addr} {b off : Nat} {xs ys : List α} (h : SlAt enc k w a b off (xs ++ ys)) : SlAt enc k w a b off xs :=
  ⟨fun hp => h.ad (by simp; omega), fun hp => h.lt (by simp; omega), fun i x hx => h.cell i x (by rw [List.getElem?_append_left (List.getElem?_eq_some_iff.1 hx).1]; exact hx)⟩
theorem oneEL (x : E) : ∀ u ∈ encE x, u.oneCell' = true := by intro u hu; simp [encE] at hu; rcases hu with rfl | rfl | rfl <;> rfl
set_option maxRecDepth 100000 in
set_option maxHeartbeats 4000000 in
theorem lent_any {s : Lts} {a : Option Addr} {b off c : Nat} {w : World} (hS : SlAt encE 3 w a b off s.es) (hl : s.es.length ≤ 1000000) :
    Calls Tryz.prog 8 #[.agg #[.int .i64 s.st, .int .i64 s.lb, .int .i64 s.s0, .slice a s.es.length c]] w fun e w' => ∃ g cap, e = .returned (.agg #[.int .i64 s.st, .int .i64 s.lb, .int .i64 s.s0, .slice (some ⟨g, 0, none⟩) s.es.length cap]) ∧ LentS w' w.heap.size g cap s.es ∧ Below w.heap.size w w' := by
  obtain ⟨W, hW⟩ : ∃ W, W = (w.alloc (.cells #[.int .i64 s.st, .int .i64 s.lb, .int .i64 s.s0, .slice a s.es.length c] 24)).alloc (.cells #[.int .i64 0, .int .i64 0, .int .i64 0, .slice none 0 0] 24) := ⟨_, rfl⟩
  have hB0 : Below w.heap.size w W := by rw [hW]; exact ((Below.refl _ _).alloc (Nat.le_refl _) _).alloc (by simp) _
  have h1 : W.heap[w.heap.size]? = some (.cells #[.int .i64 s.st, .int .i64 s.lb, .int .i64 s.s0, .slice a s.es.length c] 24 (0, 0)) := by
    rw [hW, Below.heap_alloc _ _ _ (by simp)]; exact heap_alloc_new w _
  have h2 : W.heap[w.heap.size + 1]? = some (.cells #[.int .i64 0, .int .i64 0, .int .i64 0, .slice none 0 0] 24 (0, 0)) := by
    have h := heap_alloc_new (w.alloc (.cells #[.int .i64 s.st, .int .i64 s.lb, .int .i64 s.s0, .slice a s.es.length c] 24)) (.cells #[.int .i64 0, .int .i64 0, .int .i64 0, .slice none 0 0] 24)
    rw [show (w.alloc (.cells #[.int .i64 s.st, .int .i64 s.lb, .int .i64 s.s0, .slice a s.es.length c] 24)).heap.size = w.heap.size + 1 by simp] at h
    rw [hW]; exact h
  have hSW := hS.below hB0 (Nat.le_refl _)
  obtain ⟨m, hm⟩ : ∃ m, m = s.es.length := ⟨_, rfl⟩
  rw [← hm] at hW h1 ⊢
  have HW := hid hW; have HB0 := hid hB0; have H1 := hid h1; have H2 := hid h2; have HM := hid hm; have HS := hid hSW
  have hmx : m ≤ 1000000 := by omega
  have hb1 : (0 + s.es.length) * 24 ≤ 140737488355328 := by omega
  have hb2 : 0 + s.es.length ≤ maxLen := by unfold maxLen; omega
  obtain ⟨x0, x1, x2, x3, x4⟩ := sysC h1
  clear hW hB0 h1 h2 hm hS hSW hl
  go_enter Tryz.func8, Tryz.ntmps8
  go_wp2_with (at_builtin; rw [← HW.out]; refine wpList_appS rfl (Operand.const (Value.slice none 0 0)) (Operand.tmp 6) _ rfl rowE (base := W.heap.size) (Nat.le_refl _) rfl (World.ownsRow_nil _ _ _ _) lenE oneEL HS.out (by rw [← HM.out]; rfl) hb1 hb2 ?_; intro v' w3 hown3 hg3; have HO3 := hid hown3; have hb3 := (Below.refl W.heap.size W).grown hg3 (Nat.le_refl _) (fun k hk => by cases hk); have HB3 := hid hb3; have hs3 := hb3.size; clear hown3 hg3 hb3)
  clear x0 x1 x2 x3 x4
  go_loopw [3, 4] (fun v3 v4 wr => ∃ i : Nat, v4 = .int .i64 i ∧ i ≤ 3 ∧ Below W.heap.size W wr ∧ wr.ownsRow W.heap.size 74 3 v3 (m + i) ((s.es ++ marksE.take i).flatMap encE)) (fun _ v4 _ => 3 - (intOf v4).toNat)
  case atStart => exact ⟨0, rfl, Nat.zero_le _, HB3.out, by have h := HO3.out; rw [Nat.zero_add, ← HM.out, List.nil_append] at h; simpa using h⟩
  case round =>
    obtain ⟨i, rfl, hi, hB, hown⟩ := hrel
    have HB := hid hB; have HO := hid hown
    have hs4 := hB.size
    clear hB hown HO3 HB3 hs3
    by_cases hlt : i < 3
    · have hiI : (i : Int) < 3 := by omega
      have hmk : marksE[i]? = some (-7, (i : Int), 0) := by
        have h3 : i = 0 ∨ i = 1 ∨ i = 2 := by omega
        rcases h3 with rfl | rfl | rfl <;> rfl
      have HMK := hid hmk
      clear hmk
      go_wp2_with (at_builtin; refine wpList_lies rfl _ _ 22 rfl rowE (base := W.heap.size) (by simp; omega) rfl (own_below HO.out ((Below.refl wr.heap.size wr).alloc (Nat.le_refl _) _)) ⟨wr.heap.size, 0, none⟩ 1 1 [.int .i64 (-7), .int .i64 i, .int .i64 0] rfl rfl (cells3 (by simp [go_sem]) (by simp [go_sem]) (by simp [go_sem])) (by simp [Value.oneCell']) (by omega) (by omega) (by unfold maxLen; omega) _ rfl ?_; intro g cap w6 hown6 hg6 _ _)
      have hb6 := (HB.out.alloc HB.out.size (.cells #[.int .i64 (-7), .int .i64 i, .int .i64 0] 74)).grown hg6 (by simp; omega) (fun k hk => (HO.out.lt k hk).1)
      have HB6 := hid hb6
      have HO6 : Hid (w6.ownsRow W.heap.size 74 3 (.slice (some ⟨g, 0, none⟩) (m + i + 1) cap) (m + (i + 1)) ((s.es ++ marksE.take (i + 1)).flatMap encE)) := hid (by
        rw [take_snoc HMK.out, ← List.append_assoc, List.flatMap_append]
        simpa [encE, Nat.add_assoc] using hown6)
      clear hb6 hown6 hg6 HO HB
      go_roundw
      case rel => exact ⟨i + 1, by go_num, by omega, HB6.out, HO6.out⟩
      case measure => simp [intOf]; omega
    · obtain rfl : i = 3 := by omega
      have ho := HO.out
      rw [show marksE.take 3 = marksE from rfl] at ho
      rcases ho.2 with ⟨_, h0⟩ | ⟨g, cap, cur, hv, hg0, _, hnc, hcm, _⟩
      · omega
      subst hv
      have hcap2 : cap ≤ 9223372036854775807 := by unfold maxLen at hcm; omega
      have hx1 := (HB.out.block _ (Array.getElem?_eq_some_iff.1 H1.out).1).trans H1.out
      have hx2 := (HB.out.block _ (Array.getElem?_eq_some_iff.1 H2.out).1).trans H2.out
      obtain ⟨x0, x1, x2, x3, x4⟩ := sysC hx1
      obtain ⟨⟨y0, y1, y2, y3, y4⟩, z0, z1, z2, z3⟩ := sysZ hx2
      have xf : wr.frozen? ⟨w.heap.size, 3, none⟩ = false := by simp [World.frozen?, hx1]
      have HO2 := hid ho; have HB2 := hid (HB0.out.trans (HB.out.mono HB0.out.size)); have HX1 := hid hx1; have HX2 := hid hx2
      clear ho hg0 hcm hx1 hx2 HO HB
      go_wp2_with fail
      have hsW : W.heap.size = w.heap.size + 2 := by rw [HW.out]; simp
      have ho2 := HO2.out
      rw [hsW, HM.out] at ho2
      have hlt : w.heap.size + 2 ≤ g := ho2.lt g rfl |>.1
      refine bodyPost_ret (v := .agg #[.int .i64 s.st, .int .i64 s.lb, .int .i64 s.s0, .slice (some ⟨g, 0, none⟩) m cap]) (by simp [results, Tryz.results8, go_sem, y0, y1, y2, y3]) rfl ⟨g, cap, rfl, ⟨?_⟩, ?_⟩
      · refine own_blockR (own_mono ho2 (by omega)) (fun k hk => ?_)
        simp only [Value.ownBlock, Option.some.injEq] at hk
        subst hk
        rw [Below.heap_setCell _ _ _ _ (by show g ≠ w.heap.size + 1; omega), Below.heap_setCell _ _ _ _ (by show g ≠ w.heap.size + 1; omega), Below.heap_setCell _ _ _ _ (by show g ≠ w.heap.size + 1; omega), Below.heap_setCell _ _ _ _ (by show g ≠ w.heap.size + 1; omega), Below.heap_setCell _ _ _ _ (by show g ≠ w.heap.size; omega)]
      · exact ((((HB2.out.setCell (p := ⟨w.heap.size, 3, none⟩) (by simp) _).setCell (p := ⟨w.heap.size + 1, 0, none⟩) (by simp) _).setCell (p := ⟨w.heap.size + 1, 1, none⟩) (by simp) _).setCell (p := ⟨w.heap.size + 1, 2, none⟩) (by simp) _).setCell (p := ⟨w.heap.size + 1, 3, none⟩) (by simp) _
set_option maxRecDepth 100000 in
set_option maxHeartbeats 4000000 in
theorem stays_any {es : List E} {base g cap : Nat} {st lb s0 st' lb' s0' : Int} {a : Option Addr} {b off c : Nat} {w : World} (hL : LentS w base g cap es) (hS : SlAt encE 3 w a b off es) (hl : es.length ≤ 1000000) :
    Calls Tryz.prog 14 #[.agg #[.int .i64 st, .int .i64 lb, .int .i64 s0, .slice (some ⟨g, 0, none⟩) es.length cap], .agg #[.int .i64 st', .int .i64 lb', .int .i64 s0', .slice a es.length c]] w fun e w' => e = .returned (.bool true) ∧ Below w.heap.size w w' := by
  obtain ⟨h1, h2, h3, _⟩ := hL.all
  obtain ⟨W, hW⟩ : ∃ W, W = (w.alloc (.cells #[.int .i64 st, .int .i64 lb, .int .i64 s0, .slice (some ⟨g, 0, none⟩) es.length cap] 24)).alloc (.cells #[.int .i64 st', .int .i64 lb', .int .i64 s0', .slice a es.length c] 24) := ⟨_, rfl⟩
  have hB0 : Below w.heap.size w W := by rw [hW]; exact ((Below.refl _ _).alloc (Nat.le_refl _) _).alloc (by simp) _
  have k1 : W.heap[w.heap.size]? = some (.cells #[.int .i64 st, .int .i64 lb, .int .i64 s0, .slice (some ⟨g, 0, none⟩) es.length cap] 24 (0, 0)) := by
    rw [hW, Below.heap_alloc _ _ _ (by simp)]; exact heap_alloc_new w _
  have hsame := sameEdges_any (c1 := cap) (c2 := c) (SlAt.preE h1 |>.below hB0 (Nat.le_refl _)) (hS.below hB0 (Nat.le_refl _)) hl hl
  rw [show decide (es = es) = true by simp] at hsame
  have hcell : ∀ i, i < 3 → W.cell? ⟨g, (es.length + i) * 3, none⟩ = some (.int .i64 (-7)) ∧ W.cell? ⟨g, (es.length + i) * 3 + 1, none⟩ = some (.int .i64 i) ∧ W.cell? ⟨g, (es.length + i) * 3 + 2, none⟩ = some (.int .i64 0) := fun i hi => by
    have hx : (es ++ marksE)[es.length + i]? = some (-7, (i : Int), 0) := by
      rw [List.getElem?_append_right (by omega), Nat.add_sub_cancel_left]
      have h3 : i = 0 ∨ i = 1 ∨ i = 2 := by omega
      rcases h3 with rfl | rfl | rfl <;> rfl
    have hh := h1.below hB0 (Nat.le_refl _)
    have e0 := hh.cell _ _ hx 0 _ rfl
    have e1 := hh.cell _ _ hx 1 _ rfl
    have e2 := hh.cell _ _ hx 2 _ rfl
    rw [Nat.add_zero, Nat.zero_add] at e0
    rw [Nat.zero_add] at e1 e2
    exact ⟨e0, e1, e2⟩
  have hgl := World.block_lt_of_cell? _ _ (hcell 0 (by omega)).1
  obtain ⟨m, hm⟩ : ∃ m, m = es.length := ⟨_, rfl⟩
  rw [← hm] at hW k1 hsame hcell h2 hl ⊢
  unfold maxLen at h3
  have HW := hid hW; have HB0 := hid hB0; have HSA := hid hsame; have HCE := hid hcell; have HK := hid k1
  obtain ⟨x0, x1, x2, x3, x4⟩ := sysC k1
  clear hW hB0 hsame hcell hL hS h1 k1 hm
  have k2 : (0 : Int) ≤ (m : Int) + 3 := by omega
  have k3 : ((m : Int) + 3).toNat = m + 3 := by omega
  have k4 : (m : Int) + 3 ≤ (cap : Int) := by omega
  have hgE := guardE
  go_enter Tryz.func14, Tryz.ntmps14
  go_wp2_with fail
  rw [← HW.out]
  refine HSA.out.mono ?_
  rintro e w2 ⟨rfl, nq, rfl⟩
  clear HSA
  go_wp2_with fail
  go_loopw [6] (fun v6 wr => ∃ i : Nat, v6 = .int .i64 i ∧ i ≤ 3 ∧ wr = W.drewN nq) (fun v6 _ => 3 - (intOf v6).toNat)
  case atStart => exact ⟨0, rfl, Nat.zero_le _, rfl⟩
  case round =>
    obtain ⟨i, rfl, hi, rfl⟩ := hrel
    by_cases hlt : i < 3
    · have hiI : (i : Int) < 3 := by omega
      obtain ⟨e0, e1, e2⟩ := HCE.out i hlt
      have q1 : (0 : Int) ≤ (m : Int) + (i : Int) := by omega
      have q2 : ((m : Int) + (i : Int)).toNat = m + i := by omega
      have q3 : (m : Int) + (i : Int) < ((m + 3 : Nat) : Int) := by omega
      have hq := fun w => neqE (-7, (i : Int), 0) (-7, (i : Int), 0) w
      have hzz : decide (((-7 : Int), (i : Int), (0 : Int)) = (-7, (i : Int), 0)) = true := by simp
      rw [hzz] at hq
      simp only [Bool.not_true] at hq
      clear hzz
      go_wp2_with fail
      go_roundw
      case rel => exact ⟨i + 1, by go_num, by omega, by first | rfl | trivial⟩
      case measure => simp [intOf]; omega
    · obtain rfl : i = 3 := by omega
      go_wp2_with fail
      go_ret
      exact ⟨rfl, bdrew HB0.out⟩
end Go.Proofs.YtebmlhaoeldhkaaGreatDoor
namespace Go.Proofs.YtebmlhaoeldhkaaGreatDoor
open Go.RowKit Pl
theorem bad_any (l : ByteArray) (hl : l.size ≤ 1000) (k : Int) (w : World) : Calls Tryz.prog 19 #[.string l, .int .i64 k] w fun e w' => e = .returned (.agg #[.int .i64 k, .int .i64 0, .int .i64 0, .string (l ++ ⟨#[32]⟩)]) ∧ Below w.heap.size w w' := by
  have hz2 : ¬ 9223372036854775807 < l.size + 1 := by omega
  go_enter Tryz.func19, Tryz.ntmps19
  go_wp2_with fail
  refine bodyPost_ret (v := .agg #[.int .i64 k, .int .i64 0, .int .i64 0, .string (l ++ ⟨#[32]⟩)]) (by simp [results, Tryz.results19, go_sem]) rfl ⟨rfl, (Below.refl _ _).alloc (Nat.le_refl _) _⟩
end Go.Proofs.YtebmlhaoeldhkaaGreatDoor
namespace Go.Proofs.YtebmlhaoeldhkaaGreatDoor
open Go.RowKit Pl
set_option maxRecDepth 100000 in
theorem less_any (x y : E) (w : World) : Calls Tryz.prog 160 #[.agg #[.int .i64 x.1, .int .i64 x.2.1, .int .i64 x.2.2], .agg #[.int .i64 y.1, .int .i64 y.2.1, .int .i64 y.2.2]] w fun e w' =>
    e = .returned (.bool (ltE x y)) ∧ Below w.heap.size w w' := by
  by_cases h1 : x.1 = y.1
  · have b1 : (x.1 != y.1) = false := by simp [h1]
    by_cases h2 : x.2.1 = y.2.1
    · have b2 : (x.2.1 != y.2.1) = false := by simp [h2]
      have hr : ltE x y = decide (x.2.2 < y.2.2) := by simp [ltE, h1, h2]
      rw [hr]
      clear h1 h2 hr
      go_enter Tryz.func160, Tryz.ntmps160
      go_wp2
      go_ret
      exact ⟨rfl, ((Below.refl _ _).alloc (Nat.le_refl _) _).alloc (by simp) _⟩
    · have b2 : (x.2.1 != y.2.1) = true := by simp [h2]
      have hr : ltE x y = decide (x.2.1 < y.2.1) := by simp [ltE, h1, h2]
      rw [hr]
      clear h1 h2 hr
      go_enter Tryz.func160, Tryz.ntmps160
      go_wp2
      go_ret
      exact ⟨rfl, ((Below.refl _ _).alloc (Nat.le_refl _) _).alloc (by simp) _⟩
  · have b1 : (x.1 != y.1) = true := by simp [h1]
    have hr : ltE x y = decide (x.1 < y.1) := by simp [ltE, h1]
    rw [hr]
    clear h1 hr
    go_enter Tryz.func160, Tryz.ntmps160
    go_wp2
    go_ret
    exact ⟨rfl, ((Below.refl _ _).alloc (Nat.le_refl _) _).alloc (by simp) _⟩
end Go.Proofs.YtebmlhaoeldhkaaGreatDoor

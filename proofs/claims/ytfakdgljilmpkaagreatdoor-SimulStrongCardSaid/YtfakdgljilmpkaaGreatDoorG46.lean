/-
  strong.play.smallest: the least block of the first heap that has more than one.
  strong.newPlay.
-/
import Derived.Test.YtfakdgljilmpkaaGreatDoorG45
import Derived.Test.YtfakdgljilmpkaaGreatDoorG43
import Derived.Test.YtfakdgljilmpkaaGreatDoorAs
import Derived.Test.YtfakdgljilmpkaaGreatDoorNewC
import Derived.Test.YtfakdgljilmpkaaGreatDoorG23
namespace Go.Proofs.YtfakdgljilmpkaaGreatDoor
open Go.RowKit Pl

namespace Pl
theorem another {l : List Nat} (hn : l.Nodup) (h2 : 2 ≤ l.length) {b : Nat} : ∃ c, c ∈ l ∧ c ≠ b := by
  apply Classical.byContradiction
  intro h
  have := nodup_le (l := l) (m := [b]) hn (fun x hx => by
    rcases Classical.em (x = b) with e | e
    · simp [e]
    · exact absurd ⟨x, hx, e⟩ h)
  simp at this; omega
theorem bks_nodup (el hp : Nat → Nat) (bl : List B3) (k h : Nat) : (bksOf el hp bl k h).Nodup := List.Pairwise.filter _ List.nodup_range
end Pl

section
variable {w0 w : World} {s : Lts} {K : PK} {S : SK} {n : Nat} {el pl inn : Nat → Nat} {bl : List B3} {hp ga : Nat → Nat} {sz : List Int} {tl : List Value} {rest : List Rw}

def SmallPost (w0 : World) (K : PK) (S : SK) (n : Nat) (el pl inn : Nat → Nat) (bl : List B3) (hp ga : Nat → Nat) (sz : List Int) (tl : List Value) (rest : List Rw) (e : Ending) (w' : World) : Prop :=
  (e = .returned (.slice none 0 0) ∧ (∀ h, h < sz.length → (bksOf el hp bl bl.length h).length < 2) ∧ Rws w0 w' (PR K n el pl inn bl ++ (SR S K.pb n hp ga sz tl ++ rest))) ∨
  ∃ b c g cap : Nat, e = .returned (.slice (some ⟨g, 0, none⟩) (memN n inn b).length cap) ∧ b < bl.length ∧ c < bl.length ∧ b ≠ c ∧ hbk el hp bl b = hbk el hp bl c ∧ (memN n inn b).length ≤ (memN n inn c).length ∧ 0 < (memN n inn b).length ∧
    Rws w0 w' (⟨3, 1, .slice (some ⟨g, 0, none⟩) (memN n inn b).length cap, (memN n inn b).length, ((memN n inn b).map Int.ofNat).flatMap encI⟩ :: (PR K n el pl inn bl ++ (SR S K.pb n hp ga sz tl ++ rest)))

set_option maxRecDepth 100000 in
set_option maxHeartbeats 4000000 in
theorem smallest_any (h : SW w0 w s K S n el pl inn bl hp ga sz tl rest) (hz : sz.length ≤ 1000) (hz0 : 0 < sz.length) (hh : ∀ p, p < n → hp p < sz.length) :
    Calls Tryz.prog 50 #[.pointer (some ⟨S.xb, 0, none⟩)] w (SmallPost w0 K S n el pl inn bl hp ga sz tl rest) := by
  have H := Lib.hid h
  have hn1 := h.par.n1
  have hfew := h.par.pi.few
  have hb := h.par.rws.addLit #[.pointer (some ⟨S.xb, 0, none⟩)] 85 (k := 1) (n := 1) (by unfold maxLen; omega) rfl
  have hsw : SW w0 (w.alloc (.cells #[.pointer (some ⟨S.xb, 0, none⟩)] 85)) s K S n el pl inn bl hp ga sz tl (⟨85, 1, .slice (some ⟨w.heap.size, 0, none⟩) 1 1, 1, [.pointer (some ⟨S.xb, 0, none⟩)]⟩ :: rest) := ⟨⟨hb.dig, h.par.pi, hn1⟩, h.gr, h.st⟩
  have HB := Lib.hid (blocks_any hsw hz hz0 hh)
  obtain ⟨cb, hcb⟩ : ∃ cb, cb = w.heap.size := ⟨_, rfl⟩
  rw [← hcb] at HB
  obtain ⟨m, hm⟩ : ∃ m, m = sz.length := ⟨_, rfl⟩
  rw [← hm] at hz hz0
  have HM := Lib.hid hm
  clear h hb hsw hh hm
  go_enter Tryz.func50, Tryz.ntmps50
  go_wp2_with fail
  refine HB.out.mono ?_
  unfold BlocksPost
  rw [← HM.out]
  rintro e w2 ⟨ob, vs, rfl, hr2, _⟩
  have HR2 := Lib.hid hr2
  rw [← hcb]
  have c0 : w2.cell? ⟨cb, 0, none⟩ = some (.pointer (some ⟨S.xb, 0, none⟩)) := (hr2.sub ((List.sublist_append_right _ _).trans ((List.sublist_append_right _ _).trans (List.sublist_append_right _ _)))).cell (i := 0) rfl rfl
  have cl := World.block_lt_of_cell? _ _ c0
  clear hr2 hcb HB
  go_wp2_with fail
  go_loopw [4, 5, 6, 7, 11] (fun _ _ _ _ v11 wr => ∃ k : Nat, v11 = .int .i64 k ∧ k ≤ m ∧ wr = w2 ∧ ∀ h, h < k → (bksOf el hp bl bl.length h).length < 2) (fun _ _ _ _ v11 _ => m - (intOf v11).toNat)
  case atStart => exact ⟨0, rfl, Nat.zero_le _, rfl, fun h hh => by omega⟩
  case round =>
    obtain ⟨k, rfl, hk, rfl, hno⟩ := hrel
    have HNO := Lib.hid hno
    clear hno
    by_cases hkm : k < m
    · obtain ⟨q0, _, ql, _⟩ := HR2.out.frCell (l := k) hkm
      obtain ⟨xa, xc, xb0, hxv, _, _, hxs, _⟩ := slAt_own lenI (HR2.out.frOwn (l := k) hkm)
      have hbl := bks_len el hp bl bl.length k
      have hlm : ((bksOf el hp bl bl.length k).map Int.ofNat).length = (bksOf el hp bl bl.length k).length := List.length_map ..
      rw [hlm] at hxv
      rw [hxv] at q0
      have HXS := Lib.hid hxs
      obtain ⟨X, hX⟩ : ∃ X, X = bksOf el hp bl bl.length k := ⟨_, rfl⟩
      rw [← hX] at q0 hbl HXS
      have HX := Lib.hid hX
      have hkI : (k : Int) < (m : Int) := by omega
      clear hxv hxs hlm hX
      by_cases h2 : X.length < 2
      · have h2I : (X.length : Int) < 2 := by omega
        have hn2 : ∀ h, h < k + 1 → (bksOf el hp bl bl.length h).length < 2 := fun h hh => by
          by_cases e : h = k
          · subst e; rw [← HX.out]; exact h2
          · exact HNO.out h (by omega)
        have HN2 := Lib.hid hn2
        clear hn2
        go_wp2_with fail
        go_roundw
        case rel => exact ⟨k + 1, by go_num, by omega, trivial, HN2.out⟩
        case measure => simp [intOf]; omega
      · have h2I : ¬ (X.length : Int) < 2 := by omega
        have hX0 : 0 < X.length := by omega
        have SWW : RowKit.Hid (∀ V, Below wr.heap.size wr V → SW w0 V s K S n el pl inn bl hp ga sz tl (⟨85, 1, .slice (some ⟨cb, 0, none⟩) 1 1, 1, [.pointer (some ⟨S.xb, 0, none⟩)]⟩ :: rest)) := Lib.hid (fun V hV =>
          ⟨⟨(HR2.out.call hV).sub (List.sublist_append_right _ _), H.out.par.pi, hn1⟩, H.out.gr, H.out.st⟩)
        have hxr : ∀ x ∈ X, x < bl.length := fun x hx => by rw [HX.out] at hx; exact (mem_bks.1 hx).1
        have HMF := Lib.hid (minFunc_any (f := fun b => (memN n inn b).length) (xs := X) (c := xc) (cb := cb) HXS.out hX0 (by omega) (fun x _ => Nat.le_trans (memN_le _ _) (by omega)) (fun V x y hV hx hy =>
          less_any (SWW.out V hV) (hxr x hx) (hxr y hy) ((hV.cell (p := ⟨cb, 0, none⟩) cl).trans c0)))
        have HXR := Lib.hid hxr
        clear hxr
        go_wp2_with fail
        refine HMF.out.mono ?_
        unfold MinPost
        rintro e w3 ⟨b, hbx, rfl, hmin, hB3⟩
        have hbl2 := HXR.out b hbx
        have hsw3 := SWW.out w3 hB3
        have HMB := Lib.hid (members_any hsw3.par hbl2)
        have c1 : w3.cell? ⟨cb, 0, none⟩ = some (.pointer (some ⟨S.xb, 0, none⟩)) := (hB3.cell (p := ⟨cb, 0, none⟩) cl).trans c0
        have cl1 := World.block_lt_of_cell? _ _ c1
        obtain ⟨_, x1, _, _, _, _, _, xl⟩ := hsw3.run.sCells
        have HSW3 := Lib.hid hsw3; have HMIN := Lib.hid hmin; have HBX := Lib.hid hbx
        clear hmin hbx hB3 hsw3 c0 cl q0 ql HMF SWW
        go_wp2_with fail
        refine HMB.out.mono ?_
        unfold MembersPost
        rintro e w4 ⟨v, rfl, hown, hB4⟩
        have hpos : 0 < (memN n inn b).length := by
          obtain ⟨p, hp1, hp2, _⟩ := HSW3.out.par.pi.hbk (hp := hp) hbl2
          exact List.length_pos_of_mem (mem_memN.2 ⟨hp1, hp2⟩)
        have hadd := HSW3.out.par.rws.add hB4 hown
        have hlm : ((memN n inn b).map Int.ofNat).length = (memN n inn b).length := List.length_map ..
        rw [hlm] at hadd hown
        obtain ⟨g, cap, rfl, _, _⟩ := hown.form hpos
        obtain ⟨c, hc1, hc2⟩ := another (b := b) (by rw [HX.out]; exact bks_nodup el hp bl bl.length k : X.Nodup) (by omega)
        have hcb2 := HBX.out; have hcc2 := hc1
        rw [HX.out] at hcb2 hcc2
        have hfin : SmallPost w0 K S n el pl inn bl hp ga sz tl rest (.returned (.slice (some ⟨g, 0, none⟩) (memN n inn b).length cap)) w4 := .inr ⟨b, c, g, cap, rfl, hbl2, HXR.out c hc1, fun e => hc2 e.symm, by rw [(mem_bks.1 hcb2).2, (mem_bks.1 hcc2).2], HMIN.out c hc1, hpos,
          hadd.sub (.cons_cons _ ((List.Sublist.refl _).append ((List.Sublist.refl _).append (List.sublist_cons_self _ _))))⟩
        have HFIN := Lib.hid hfin
        clear hpos hadd hlm hown hc1 hc2 hcb2 hcc2 hfin hB4 HMB x1 xl c1 cl1
        go_wp2_with fail
        go_ret
        exact HFIN.out
    · obtain rfl : k = m := by omega
      have hfin : SmallPost w0 K S n el pl inn bl hp ga sz tl rest (.returned (.slice none 0 0)) wr := .inl ⟨rfl, by rw [← HM.out]; exact HNO.out, HR2.out.sub (((List.Sublist.refl _).append ((List.Sublist.refl _).append (List.sublist_cons_self _ _))).trans (List.sublist_append_right _ _))⟩
      have HFIN := Lib.hid hfin
      clear hfin HNO
      go_wp2_with fail
      go_ret
      exact HFIN.out
end
end Go.Proofs.YtfakdgljilmpkaaGreatDoor

namespace Go.Proofs.YtfakdgljilmpkaaGreatDoor
open Go.RowKit Pl

def strName : ByteArray := ⟨#[115, 116, 114, 111, 110, 103]⟩
/-- A fault of this layer over one of the layer system. -/
def FaultS (w : World) (p : Addr) (v : Value) : Prop :=
  ∃ vi, FaultAt w v strName vi ∧ FaultAt w vi sysName (.iface 275 (.pointer (some p)))
theorem FaultS.below {w w' : World} {p : Addr} {v : Value} (h : FaultS w p v) (hB : Below w.heap.size w w') : FaultS w' p v := by
  obtain ⟨vi, h1, h2⟩ := h
  exact ⟨vi, h1.below hB, h2.below hB⟩

set_option maxRecDepth 100000 in
theorem newPlayNo_any {p : Addr} {s : Lts} (h : ¬ s.Right) {a : Option Addr} {b off c : Nat} {w : World} (hG : GErr 0 p w) (hT : ErrType w) (hS : SlAt encE 3 w a b off s.es) :
    Calls Tryz.prog 47 #[.agg #[.int .i64 s.st, .int .i64 s.lb, .int .i64 s.s0, .slice a s.es.length c]] w fun e w' =>
      ∃ v, e = .returned (.tuple #[.pointer none, v]) ∧ FaultS w' p v ∧ Below w.heap.size w w' := by
  have hB0 := (Below.refl w.heap.size w).alloc (Nat.le_refl _) (Obj.cells #[.int .i64 s.st, .int .i64 s.lb, .int .i64 s.s0, .slice a s.es.length c] 24)
  have hN := new_no (c := c) h (hG.below hB0) (hS.below hB0 (Nat.le_refl _))
  have HN := Lib.hid hN; have HT := Lib.hid (hT.below hB0); have HB0 := Lib.hid hB0
  clear hN hT hB0 hS hG h
  go_enter Tryz.func47, Tryz.ntmps47
  go_wp2_with fail
  refine HN.out.mono ?_
  rintro e w1 ⟨v, rfl, hF, hB1⟩
  have HF := Lib.hid hF
  obtain ⟨fb, rfl, hfb⟩ := hF.ex
  have HT1 := Lib.hid (HT.out.below hB1)
  have HA := Lib.hid (faultAs_any strName HT1.out hfb)
  have HB1 := Lib.hid (HB0.out.trans (hB1.mono (by simp)))
  clear hB1 hfb hF
  go_wp2_with fail
  refine HA.out.mono ?_
  rintro e w2 ⟨v, rfl, hF2, hB2⟩
  have hf3 := HF.out.below hB2
  have HR : RowKit.Hid (FaultS w2 p v) := Lib.hid ⟨_, hF2, hf3⟩
  have HB2 := Lib.hid (HB1.out.trans (hB2.mono HB1.out.size))
  clear hF2 hf3 hB2
  go_wp2
  go_ret2
  exact ⟨v, rfl, HR.out, HB2.out⟩

/-- What newPlay answers of a right system that has states. -/
def PlayPost (s : Lts) (n : Nat) (w : World) (e : Ending) (w' : World) : Prop :=
  ∃ (w0 : World) (K : PK) (S : SK), e = .returned (.tuple #[.pointer (some ⟨S.xb, 0, none⟩), .nilIface]) ∧ SW w0 w' s.norm K S n id id z0 [(0, n, 0)] z0 z0 [] [] [] ∧ Below w.heap.size w w0

set_option maxRecDepth 100000 in
set_option maxHeartbeats 2000000 in
theorem newPlayYes_any {p : Addr} {s : Lts} {n : Nat} (h : s.Right) (hn : s.st = (n : Int)) (hn0 : 0 < n) {a : Option Addr} {b off c : Nat} {w : World} (hG : GErr 0 p w) (hS : SlAt encE 3 w a b off s.es) :
    Calls Tryz.prog 47 #[.agg #[.int .i64 s.st, .int .i64 s.lb, .int .i64 s.s0, .slice a s.es.length c]] w (PlayPost s n w) := by
  have hst := h.st0
  have hn1 : n ≤ 1000 := by omega
  have hB0 := (Below.refl w.heap.size w).alloc (Nat.le_refl _) (Obj.cells #[.int .i64 s.st, .int .i64 s.lb, .int .i64 s.s0, .slice a s.es.length c] 24)
  have hN := new_ok (c := c) h (hG.below hB0) (hS.below hB0 (Nat.le_refl _))
  have hmk := run_make_row' (P := Tryz.prog) 33 3 (.int .i64 0) 8 Tryz.underlying33 (by kernel_rfl) rfl .i64 .i64 n (by omega) (by omega)
  have HN := Lib.hid hN; have HB0 := Lib.hid hB0; have HNN := Lib.hid hn
  have hnn : s.norm.st = (n : Int) := hn
  have HNM := Lib.hid hnn
  clear hN hB0 hS hG h hn hst hnn
  go_enter Tryz.func47, Tryz.ntmps47
  go_wp2_with fail
  refine HN.out.mono ?_
  rintro e w0 ⟨gb, rfl, hGr, hB1, _⟩
  have HGR := Lib.hid hGr
  have HW0 := Lib.hid (HB0.out.trans (hB1.mono (by simp)))
  have hs1 := getStates_any hGr
  rw [HNM.out] at hs1
  have HS1 := Lib.hid hs1
  clear hGr hB1 hs1 HN HB0
  go_wp2_with fail
  refine HS1.out.mono ?_
  rintro e w1 ⟨rfl, hB1⟩
  have hr1 := ((Rws.nil hB1).addLit (madeCells #[.int .i64 0] n) 3 (k := 1) (n := n) (by unfold maxLen; omega) (by simp [size_madeCells])).addLit #[.pointer (some ⟨gb, 0, none⟩), .pointer none, .slice (some ⟨w1.heap.size, 0, none⟩) n n, .slice none 0 0, .slice none 0 0, .slice none 0 0, .slice none 0 0] 90 (k := 7) (n := 1) (by unfold maxLen; omega) rfl
  rw [madeI] at hr1
  have hz1 : (w1.alloc (.cells (madeCells #[.int .i64 0] n) 3)).heap.size = w1.heap.size + 1 := by simp
  rw [hz1] at hr1
  have HR1 := Lib.hid hr1
  clear hr1 hz1 hB1 HS1
  go_upto_region 5 with fail
  obtain ⟨V, hV⟩ : ∃ V, V = (w1.alloc (.cells (madeCells #[.int .i64 0] n) 3)).alloc (.cells #[.pointer (some ⟨gb, 0, none⟩), .pointer none, .slice (some ⟨w1.heap.size, 0, none⟩) n n, .slice none 0 0, .slice none 0 0, .slice none 0 0, .slice none 0 0] 90) := ⟨_, rfl⟩
  obtain ⟨hb, hhb⟩ : ∃ hb, hb = w1.heap.size := ⟨_, rfl⟩
  obtain ⟨xb, hxb⟩ : ∃ xb, xb = w1.heap.size + 1 := ⟨_, rfl⟩
  rw [← hV] at HR1 ⊢
  rw [← hhb] at HR1 hxb ⊢
  rw [← hxb] at HR1 ⊢
  clear hV hhb hxb
  have hs2 := getStates_any (HGR.out.below HR1.out.bel)
  rw [HNM.out] at hs2
  have HS2 := Lib.hid hs2
  clear hs2
  go_wp2_with fail
  refine HS2.out.mono ?_
  rintro e w2 ⟨rfl, hB2⟩
  have HNEW := Lib.hid (parNew_any (HR1.out.call hB2) hn0 hn1)
  clear hB2 HS2
  go_wp2_with fail
  refine HNEW.out.mono ?_
  rintro e w3 ⟨K, rfl, hpw⟩
  have HPW := Lib.hid hpw
  have x1 := hpw.rws.cell (i := 5) rfl (j := 1) rfl
  have xf := hpw.rws.fz (i := 5) rfl 1
  have xl := (hpw.rws.lt (i := 5) rfl).2
  have hr4 := ((hpw.rws.set 5 rfl 1 (.pointer (some ⟨K.pb, 0, none⟩))).addNil 33 1).addNil 3 1
  have HR4 := Lib.hid hr4
  clear hpw hr4 HNEW HR1
  go_upto_region 6 with fail
  obtain ⟨Y, hY⟩ : ∃ Y, Y = w3.setCell ⟨xb, 1, none⟩ (.pointer (some ⟨K.pb, 0, none⟩)) := ⟨_, rfl⟩
  rw [← hY] at HR4 ⊢
  clear hY x1 xf xl
  have hs3 := getStates_any (HGR.out.below HR4.out.bel)
  rw [HNM.out] at hs3
  have HS3 := Lib.hid hs3
  clear hs3
  go_wp2_with fail
  refine HS3.out.mono ?_
  rintro e w5 ⟨rfl, hB5⟩
  have hr5 := HR4.out.call hB5
  have x6 := hr5.cell (i := 7) rfl (j := 6) rfl
  have xf := hr5.fz (i := 7) rfl 6
  have xl := (hr5.lt (i := 7) rfl).2
  have hr6 := (hr5.set 7 rfl 6 (.slice (some ⟨w5.heap.size, 0, none⟩) n n)).addLit (madeCells #[.int .i64 0] n) 3 (k := 1) (n := n) (by unfold maxLen; omega) (by simp [size_madeCells])
  rw [madeI, size_setCell] at hr6
  have hr7 := hr6.perm (List.perm_append_comm (l₁ := [_, _, _]))
  have hsw : SW w0 ((w5.setCell ⟨xb, 6, none⟩ (.slice (some ⟨w5.heap.size, 0, none⟩) n n)).alloc (.cells (madeCells #[.int .i64 0] n) 3)) s.norm K ⟨xb, gb, hb, w5.heap.size, none, 0, none, 0⟩ n id id z0 [(0, n, 0)] z0 z0 [] [] [] := ⟨⟨hr7, HPW.out.pi, hn1⟩, HGR.out, HNM.out⟩
  have HSW := Lib.hid hsw
  clear hB5 hr5 hr6 hr7 hsw HS3
  go_wp2_with fail
  go_ret2
  exact ⟨w0, K, _, rfl, HSW.out, HW0.out⟩
end Go.Proofs.YtfakdgljilmpkaaGreatDoor

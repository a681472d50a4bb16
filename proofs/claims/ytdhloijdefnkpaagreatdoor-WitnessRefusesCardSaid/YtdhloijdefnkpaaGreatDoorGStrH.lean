/-
  Lemmas.
-/
import Derived.Test.YtdhloijdefnkpaaGreatDoorGStrE
import Derived.Test.YtdhloijdefnkpaaGreatDoorGStrC
import Derived.Test.YtdhloijdefnkpaaGreatDoorGAs
import Derived.Test.YtdhloijdefnkpaaGreatDoorGNew
import Derived.Test.YtdhloijdefnkpaaGreatDoorGPl12
namespace Go.Proofs.YtdhloijdefnkpaaGreatDoor
open Go.RowKit Pl
open Lib (hid)
namespace Pl
theorem another {l : List Nat} (hn : l.Nodup) (h2 : 2 ≤ l.length) {b : Nat} : ∃ c, c ∈ l ∧ c ≠ b := by
  apply Classical.byContradiction
  intro h
  have := nodup_le (l := l) (m := [b]) hn (fun x hx => by
    rcases Classical.em (x = b) with e | e
    · simp [e]
    · exact absurd ⟨x, hx, e⟩ h)
  simp at this; omega
theorem bks_nodup (el hp : Nat → Nat) (bl : List B3) (k h : Nat) : (bksOf el hp bl k h).Nodup := List.Pairwise.filter _ List.nodup_range
end Pl
section
variable {w0 w : World} {s : Lts} {K : PK} {S : SK} {n : Nat} {el pl inn : Nat → Nat} {bl : List B3} {hp ga : Nat → Nat} {sz : List Int} {tl : List Value} {rest : List Rw}
def SmallPost (w0 : World) (K : PK) (S : SK) (n : Nat) (el pl inn : Nat → Nat) (bl : List B3) (hp ga : Nat → Nat) (sz : List Int) (tl : List Value) (rest : List Rw) (e : Ending) (w' : World) : Prop :=
  (e = .returned (.slice none 0 0) ∧ (∀ h, h < sz.length → (bksOf el hp bl bl.length h).length < 2) ∧ Rws w0 w' (PR K n el pl inn bl ++ (SR S K.pb n hp ga sz tl ++ rest))) ∨
  ∃ b c g cap : Nat, e = .returned (.slice (some ⟨g, 0, none⟩) (memN n inn b).length cap) ∧ b < bl.length ∧ c < bl.length ∧ b ≠ c ∧ hbk el hp bl b = hbk el hp bl c ∧ (memN n inn b).length ≤ (memN n inn c).length ∧ 0 < (memN n inn b).length ∧
    Rws w0 w' (⟨3, 1, .slice (some ⟨g, 0, none⟩) (memN n inn b).length cap, (memN n inn b).length, ((memN n inn b).map Int.ofNat).flatMap encI⟩ :: (PR K n el pl inn bl ++ (SR S K.pb n hp ga sz tl ++ rest)))
set_option maxRecDepth 100000 in
set_option maxHeartbeats 4000000 in
theorem smallest_any (h : SW w0 w s K S n el pl inn bl hp ga sz tl rest) (hz : sz.length ≤ 1000) (hz0 : 0 < sz.length) (hh : ∀ p, p < n → hp p < sz.length) :
    Calls Tryz.prog 100 #[.pointer (some ⟨S.xb, 0, none⟩)] w (SmallPost w0 K S n el pl inn bl hp ga sz tl rest) := by
  have H := hid h
  have hn1 := h.par.n1
  have hfew := h.par.pi.few
  have hb := h.par.rws.addLit #[.pointer (some ⟨S.xb, 0, none⟩)] 154 (k := 1) (n := 1) (by unfold maxLen; omega) rfl
  have hsw : SW w0 (w.alloc (.cells #[.pointer (some ⟨S.xb, 0, none⟩)] 154)) s K S n el pl inn bl hp ga sz tl (⟨154, 1, .slice (some ⟨w.heap.size, 0, none⟩) 1 1, 1, [.pointer (some ⟨S.xb, 0, none⟩)]⟩ :: rest) := ⟨⟨hb.dig, h.par.pi, hn1⟩, h.gr, h.st⟩
  have HB := hid (blocks_any hsw hz hz0 hh)
  obtain ⟨cb, hcb⟩ : ∃ cb, cb = w.heap.size := ⟨_, rfl⟩
  rw [← hcb] at HB
  obtain ⟨m, hm⟩ : ∃ m, m = sz.length := ⟨_, rfl⟩
  rw [← hm] at hz hz0
  have HM := hid hm
  clear h hb hsw hh hm
  go_enter Tryz.func100, Tryz.ntmps100
  go_wp2_with fail
  refine HB.out.mono ?_
  unfold BlocksPost
  rw [← HM.out]
  rintro e w2 ⟨ob, vs, rfl, hr2, _⟩
  have HR2 := hid hr2
  rw [← hcb]
  have c0 : w2.cell? ⟨cb, 0, none⟩ = some (.pointer (some ⟨S.xb, 0, none⟩)) := (hr2.sub ((List.sublist_append_right _ _).trans ((List.sublist_append_right _ _).trans (List.sublist_append_right _ _)))).cell (i := 0) rfl rfl
  have cl := World.block_lt_of_cell? _ _ c0
  clear hr2 hcb HB
  go_wp2_with fail
  go_loopw [4, 5, 6, 7, 11] (fun _ _ _ _ v11 wr => ∃ k : Nat, v11 = .int .i64 k ∧ k ≤ m ∧ wr = w2 ∧ ∀ h, h < k → (bksOf el hp bl bl.length h).length < 2) (fun _ _ _ _ v11 _ => m - (intOf v11).toNat)
  case atStart => exact ⟨0, rfl, Nat.zero_le _, rfl, fun h hh => by omega⟩
  case round =>
    obtain ⟨k, rfl, hk, rfl, hno⟩ := hrel
    have HNO := hid hno
    clear hno
    by_cases hkm : k < m
    · obtain ⟨q0, _, ql, _⟩ := HR2.out.frCell (l := k) hkm
      obtain ⟨xa, xc, xb0, hxv, _, _, hxs, _⟩ := slAt_own lenI (HR2.out.frOwn (l := k) hkm)
      have hbl := bks_len el hp bl bl.length k
      have hlm : ((bksOf el hp bl bl.length k).map Int.ofNat).length = (bksOf el hp bl bl.length k).length := List.length_map ..
      rw [hlm] at hxv
      rw [hxv] at q0
      have HXS := hid hxs
      obtain ⟨X, hX⟩ : ∃ X, X = bksOf el hp bl bl.length k := ⟨_, rfl⟩
      rw [← hX] at q0 hbl HXS
      have HX := hid hX
      have hkI : (k : Int) < (m : Int) := by omega
      clear hxv hxs hlm hX
      by_cases h2 : X.length < 2
      · have h2I : (X.length : Int) < 2 := by omega
        have hn2 : ∀ h, h < k + 1 → (bksOf el hp bl bl.length h).length < 2 := fun h hh => by
          by_cases e : h = k
          · subst e; rw [← HX.out]; exact h2
          · exact HNO.out h (by omega)
        have HN2 := hid hn2
        clear hn2
        go_wp2_with fail
        go_roundw
        case rel => exact ⟨k + 1, by go_num, by omega, trivial, HN2.out⟩
        case measure => simp [intOf]; omega
      · have h2I : ¬ (X.length : Int) < 2 := by omega
        have hX0 : 0 < X.length := by omega
        have SWW : Hid (∀ V, Below wr.heap.size wr V → SW w0 V s K S n el pl inn bl hp ga sz tl (⟨154, 1, .slice (some ⟨cb, 0, none⟩) 1 1, 1, [.pointer (some ⟨S.xb, 0, none⟩)]⟩ :: rest)) := hid (fun V hV =>
          ⟨⟨(HR2.out.call hV).sub (List.sublist_append_right _ _), H.out.par.pi, hn1⟩, H.out.gr, H.out.st⟩)
        have hxr : ∀ x ∈ X, x < bl.length := fun x hx => by rw [HX.out] at hx; exact (mem_bks.1 hx).1
        have HMF := hid (minFunc_any (f := fun b => (memN n inn b).length) (xs := X) (c := xc) (cb := cb) HXS.out hX0 (by omega) (fun x _ => Nat.le_trans (memN_le _ _) (by omega)) (fun V x y hV hx hy =>
          less_any (SWW.out V hV) (hxr x hx) (hxr y hy) ((hV.cell (p := ⟨cb, 0, none⟩) cl).trans c0)))
        have HXR := hid hxr
        clear hxr
        go_wp2_with fail
        refine HMF.out.mono ?_
        unfold MinPost
        rintro e w3 ⟨b, hbx, rfl, hmin, hB3⟩
        have hbl2 := HXR.out b hbx
        have hsw3 := SWW.out w3 hB3
        have HMB := hid (members_any hsw3.par hbl2)
        have c1 : w3.cell? ⟨cb, 0, none⟩ = some (.pointer (some ⟨S.xb, 0, none⟩)) := (hB3.cell (p := ⟨cb, 0, none⟩) cl).trans c0
        have cl1 := World.block_lt_of_cell? _ _ c1
        obtain ⟨_, x1, _, _, _, _, _, xl⟩ := hsw3.run.sCells
        have HSW3 := hid hsw3; have HMIN := hid hmin; have HBX := hid hbx
        clear hmin hbx hB3 hsw3 c0 cl q0 ql HMF SWW
        go_wp2_with fail
        refine HMB.out.mono ?_
        unfold MembersPost
        rintro e w4 ⟨v, rfl, hown, hB4⟩
        have hpos : 0 < (memN n inn b).length := by
          obtain ⟨p, hp1, hp2, _⟩ := HSW3.out.par.pi.hbk (hp := hp) hbl2
          exact List.length_pos_of_mem (mem_memN.2 ⟨hp1, hp2⟩)
        have hadd := HSW3.out.par.rws.add hB4 hown
        have hlm : ((memN n inn b).map Int.ofNat).length = (memN n inn b).length := List.length_map ..
        rw [hlm] at hadd hown
        obtain ⟨g, cap, rfl, _, _⟩ := hown.form hpos
        obtain ⟨c, hc1, hc2⟩ := another (b := b) (by rw [HX.out]; exact bks_nodup el hp bl bl.length k : X.Nodup) (by omega)
        have hcb2 := HBX.out; have hcc2 := hc1
        rw [HX.out] at hcb2 hcc2
        have hfin : SmallPost w0 K S n el pl inn bl hp ga sz tl rest (.returned (.slice (some ⟨g, 0, none⟩) (memN n inn b).length cap)) w4 := .inr ⟨b, c, g, cap, rfl, hbl2, HXR.out c hc1, fun e => hc2 e.symm, by rw [(mem_bks.1 hcb2).2, (mem_bks.1 hcc2).2], HMIN.out c hc1, hpos,
          hadd.sub (.cons_cons _ ((List.Sublist.refl _).append ((List.Sublist.refl _).append (List.sublist_cons_self _ _))))⟩
        have HFIN := hid hfin
        clear hpos hadd hlm hown hc1 hc2 hcb2 hcc2 hfin hB4 HMB x1 xl c1 cl1
        go_wp2_with fail
        go_ret
        exact HFIN.out
    · obtain rfl : k = m := by omega
      have hfin : SmallPost w0 K S n el pl inn bl hp ga sz tl rest (.returned (.slice none 0 0)) wr := .inl ⟨rfl, by rw [← HM.out]; exact HNO.out, HR2.out.sub (((List.Sublist.refl _).append ((List.Sublist.refl _).append (List.sublist_cons_self _ _))).trans (List.sublist_append_right _ _))⟩
      have HFIN := hid hfin
      clear hfin HNO
      go_wp2_with fail
      go_ret
      exact HFIN.out
end
end Go.Proofs.YtdhloijdefnkpaaGreatDoor
namespace Go.Proofs.YtdhloijdefnkpaaGreatDoor
open Go.RowKit Pl
open Lib (hid)
def strName : ByteArray := ⟨#[115, 116, 114, 111, 110, 103]⟩
def FaultS (w : World) (p : Addr) (v : Value) : Prop :=
  ∃ vi, FaultAt w v strName vi ∧ FaultAt w vi sysName (.iface 285 (.pointer (some p)))
theorem FaultS.below {w w' : World} {p : Addr} {v : Value} (h : FaultS w p v) (hB : Below w.heap.size w w') : FaultS w' p v := by
  obtain ⟨vi, h1, h2⟩ := h
  exact ⟨vi, h1.below hB, h2.below hB⟩
set_option maxRecDepth 100000 in
theorem newPlayNo_any {p : Addr} {s : Lts} (h : ¬ s.Right) {a : Option Addr} {b off c : Nat} {w : World} (hG : GErr 1 p w) (hT : ErrType w) (hS : SlAt encE 3 w a b off s.es) :
    Calls Tryz.prog 98 #[.agg #[.int .i64 s.st, .int .i64 s.lb, .int .i64 s.s0, .slice a s.es.length c]] w fun e w' =>
      ∃ v, e = .returned (.tuple #[.pointer none, v]) ∧ FaultS w' p v ∧ Below w.heap.size w w' := by
  have hB0 := (Below.refl w.heap.size w).alloc (Nat.le_refl _) (Obj.cells #[.int .i64 s.st, .int .i64 s.lb, .int .i64 s.s0, .slice a s.es.length c] 24)
  have hN := new_no (c := c) h (hG.below hB0) (hS.below hB0 (Nat.le_refl _))
  have HN := hid hN; have HT := hid (hT.below hB0); have HB0 := hid hB0
  clear hN hT hB0 hS hG h
  go_enter Tryz.func98, Tryz.ntmps98
  go_wp2_with fail
  refine HN.out.mono ?_
  rintro e w1 ⟨v, rfl, hF, hB1⟩
  have HF := hid hF
  obtain ⟨fb, rfl, hfb⟩ := hF.ex
  have HT1 := hid (HT.out.below hB1)
  have HA := hid (faultAs_any strName HT1.out hfb)
  have HB1 := hid (HB0.out.trans (hB1.mono (by simp)))
  clear hB1 hfb hF
  go_wp2_with fail
  refine HA.out.mono ?_
  rintro e w2 ⟨v, rfl, hF2, hB2⟩
  have hf3 := HF.out.below hB2
  have HR : Hid (FaultS w2 p v) := hid ⟨_, hF2, hf3⟩
  have HB2 := hid (HB1.out.trans (hB2.mono HB1.out.size))
  clear hF2 hf3 hB2
  go_wp2
  go_ret2
  exact ⟨v, rfl, HR.out, HB2.out⟩
def PlayPost (s : Lts) (n : Nat) (w : World) (e : Ending) (w' : World) : Prop :=
  ∃ (w0 : World) (K : PK) (S : SK), e = .returned (.tuple #[.pointer (some ⟨S.xb, 0, none⟩), .nilIface]) ∧ SW w0 w' s.norm K S n id id z0 [(0, n, 0)] z0 z0 [] [] [] ∧ Below w.heap.size w w0
set_option maxRecDepth 100000 in
set_option maxHeartbeats 2000000 in
theorem newPlayYes_any {p : Addr} {s : Lts} {n : Nat} (h : s.Right) (hn : s.st = (n : Int)) (hn0 : 0 < n) {a : Option Addr} {b off c : Nat} {w : World} (hG : GErr 1 p w) (hS : SlAt encE 3 w a b off s.es) :
    Calls Tryz.prog 98 #[.agg #[.int .i64 s.st, .int .i64 s.lb, .int .i64 s.s0, .slice a s.es.length c]] w (PlayPost s n w) := by
  have hst := h.st0
  have hn1 : n ≤ 1000 := by omega
  have hB0 := (Below.refl w.heap.size w).alloc (Nat.le_refl _) (Obj.cells #[.int .i64 s.st, .int .i64 s.lb, .int .i64 s.s0, .slice a s.es.length c] 24)
  have hN := new_ok (c := c) h (hG.below hB0) (hS.below hB0 (Nat.le_refl _))
  have hmk := run_make_row' (P := Tryz.prog) 33 3 (.int .i64 0) 8 Tryz.underlying33 (by kernel_rfl) rfl .i64 .i64 n (by omega) (by omega)
  have HN := hid hN; have HB0 := hid hB0; have HNN := hid hn
  have hnn : s.norm.st = (n : Int) := hn
  have HNM := hid hnn
  clear hN hB0 hS hG h hn hst hnn
  go_enter Tryz.func98, Tryz.ntmps98
  go_wp2_with fail
  refine HN.out.mono ?_
  rintro e w0 ⟨gb, rfl, hGr, hB1, _⟩
  have HGR := hid hGr
  have HW0 := hid (HB0.out.trans (hB1.mono (by simp)))
  have hs1 := getStates_any hGr
  rw [HNM.out] at hs1
  have HS1 := hid hs1
  clear hGr hB1 hs1 HN HB0
  go_wp2_with fail
  refine HS1.out.mono ?_
  rintro e w1 ⟨rfl, hB1⟩
  have hr1 := ((Rws.nil hB1).addLit (madeCells #[.int .i64 0] n) 3 (k := 1) (n := n) (by unfold maxLen; omega) (by simp [size_madeCells])).addLit #[.pointer (some ⟨gb, 0, none⟩), .pointer none, .slice (some ⟨w1.heap.size, 0, none⟩) n n, .slice none 0 0, .slice none 0 0, .slice none 0 0, .slice none 0 0] 159 (k := 7) (n := 1) (by unfold maxLen; omega) rfl
  rw [madeI] at hr1
  have hz1 : (w1.alloc (.cells (madeCells #[.int .i64 0] n) 3)).heap.size = w1.heap.size + 1 := by simp
  rw [hz1] at hr1
  have HR1 := hid hr1
  clear hr1 hz1 hB1 HS1
  go_upto_region 5 with fail
  obtain ⟨V, hV⟩ : ∃ V, V = (w1.alloc (.cells (madeCells #[.int .i64 0] n) 3)).alloc (.cells #[.pointer (some ⟨gb, 0, none⟩), .pointer none, .slice (some ⟨w1.heap.size, 0, none⟩) n n, .slice none 0 0, .slice none 0 0, .slice none 0 0, .slice none 0 0] 159) := ⟨_, rfl⟩
  obtain ⟨hb, hhb⟩ : ∃ hb, hb = w1.heap.size := ⟨_, rfl⟩
  obtain ⟨xb, hxb⟩ : ∃ xb, xb = w1.heap.size + 1 := ⟨_, rfl⟩
  rw [← hV] at HR1 ⊢
  rw [← hhb] at HR1 hxb ⊢
  rw [← hxb] at HR1 ⊢
  clear hV hhb hxb
  have hs2 := getStates_any (HGR.out.below HR1.out.bel)
  rw [HNM.out] at hs2
  have HS2 := hid hs2
  clear hs2
  go_wp2_with fail
  refine HS2.out.mono ?_
  rintro e w2 ⟨rfl, hB2⟩
  have HNEW := hid (parNew_any (HR1.out.call hB2) hn0 hn1)
  clear hB2 HS2
  go_wp2_with fail
  refine HNEW.out.mono ?_
  rintro e w3 ⟨K, rfl, hpw⟩
  have HPW := hid hpw
  have x1 := hpw.rws.cell (i := 5) rfl (j := 1) rfl
  have xf := hpw.rws.fz (i := 5) rfl 1
  have xl := (hpw.rws.lt (i := 5) rfl).2
  have hr4 := ((hpw.rws.set 5 rfl 1 (.pointer (some ⟨K.pb, 0, none⟩))).addNil 33 1).addNil 3 1
  have HR4 := hid hr4
  clear hpw hr4 HNEW HR1
  go_upto_region 6 with fail
  obtain ⟨Y, hY⟩ : ∃ Y, Y = w3.setCell ⟨xb, 1, none⟩ (.pointer (some ⟨K.pb, 0, none⟩)) := ⟨_, rfl⟩
  rw [← hY] at HR4 ⊢
  clear hY x1 xf xl
  have hs3 := getStates_any (HGR.out.below HR4.out.bel)
  rw [HNM.out] at hs3
  have HS3 := hid hs3
  clear hs3
  go_wp2_with fail
  refine HS3.out.mono ?_
  rintro e w5 ⟨rfl, hB5⟩
  have hr5 := HR4.out.call hB5
  have x6 := hr5.cell (i := 7) rfl (j := 6) rfl
  have xf := hr5.fz (i := 7) rfl 6
  have xl := (hr5.lt (i := 7) rfl).2
  have hr6 := (hr5.set 7 rfl 6 (.slice (some ⟨w5.heap.size, 0, none⟩) n n)).addLit (madeCells #[.int .i64 0] n) 3 (k := 1) (n := n) (by unfold maxLen; omega) (by simp [size_madeCells])
  rw [madeI, size_setCell] at hr6
  have hr7 := hr6.perm (List.perm_append_comm (l₁ := [_, _, _]))
  have hsw : SW w0 ((w5.setCell ⟨xb, 6, none⟩ (.slice (some ⟨w5.heap.size, 0, none⟩) n n)).alloc (.cells (madeCells #[.int .i64 0] n) 3)) s.norm K ⟨xb, gb, hb, w5.heap.size, none, 0, none, 0⟩ n id id z0 [(0, n, 0)] z0 z0 [] [] [] := ⟨⟨hr7, HPW.out.pi, hn1⟩, HGR.out, HNM.out⟩
  have HSW := hid hsw
  clear hB5 hr5 hr6 hr7 hsw HS3
  go_wp2_with fail
  go_ret2
  exact ⟨w0, K, _, rfl, HSW.out, HW0.out⟩
end Go.Proofs.YtdhloijdefnkpaaGreatDoor
namespace Go.Proofs.YtdhloijdefnkpaaGreatDoor
open Go.RowKit Pl
open Lib (hid)
def RefPost (s : Lts) (n : Nat) (w : World) (e : Ending) (w' : World) : Prop :=
  ∃ (inn ga : Nat → Nat) (cg cc : Nat) (ta : Option Addr) (tn tc : Nat) (ba : Option Addr) (bb bc : Nat), Big s n (fun p => (inn p : Int)) ∧ (∀ p, p < n → 1 ≤ ga p ∧ 2 ^ (ga p - 1) ≤ n) ∧
    e = .returned (.tuple #[.agg #[.slice (some ⟨cg, 0, none⟩) n cc, .slice ta tn tc, .slice ba n bc], .nilIface]) ∧ w'.ownsRow w.heap.size 3 1 (.slice (some ⟨cg, 0, none⟩) n cc) n ((canon (flN n inn)).flatMap encI) ∧ SlAt encI 1 w' ba bb 0 (flN n ga) ∧ Below w.heap.size w w'
theorem hbk_of {n : Nat} {el pl inn hp : Nat → Nat} {bl : List B3} {H : Nat} {s : Lts} (hi : PI n el pl inn bl) (hr : Run s n inn hp H) {b : Nat} (hb : b < bl.length) : ∀ p, p < n → inn p = b → hp p = hbk el hp bl b := fun p hpn e => by
  obtain ⟨q, hq, h1, h2⟩ := hi.hbk (hp := hp) hb
  rw [h2]
  exact hr.sub p q hpn hq (by rw [e, h1])
theorem heaps_one {n : Nat} {el pl inn hp : Nat → Nat} {bl : List B3} {H : Nat} {s : Lts} (hi : PI n el pl inn bl) (hr : Run s n inn hp H) (h : ∀ k, k < H → (bksOf el hp bl bl.length k).length < 2) : ∀ p q, p < n → q < n → hp p = hp q → inn p = inn q := fun p q hpn hqn e => by
  apply Classical.byContradiction
  intro hne
  have hp1 := hi.lt hpn; have hq1 := hi.lt hqn
  have h1 : inn p ∈ bksOf el hp bl bl.length (hp p) := mem_bks.2 ⟨hp1, (hbk_of hi hr hp1 p hpn rfl).symm⟩
  have h2 : inn q ∈ bksOf el hp bl bl.length (hp p) := mem_bks.2 ⟨hq1, by rw [e]; exact (hbk_of hi hr hq1 q hqn rfl).symm⟩
  have h3 := h (hp p) (hr.rng p hpn)
  have h4 := nodup_le (l := [inn p, inn q]) (m := bksOf el hp bl bl.length (hp p)) (by simp [hne]) (fun x hx => by
    simp at hx
    rcases hx with rfl | rfl
    · exact h1
    · exact h2)
  simp at h4; omega
set_option maxRecDepth 100000 in
set_option maxHeartbeats 8000000 in
theorem refineYes_any {p : Addr} {s : Lts} {n : Nat} (h : s.Right) (hn : s.st = (n : Int)) (hn0 : 0 < n) {a : Option Addr} {b off c : Nat} {w : World} (hG : GErr 1 p w) (hS : SlAt encE 3 w a b off s.es) :
    Calls Tryz.prog 51 #[.agg #[.int .i64 s.st, .int .i64 s.lb, .int .i64 s.s0, .slice a s.es.length c]] w (RefPost s.norm n w) := by
  have hst := h.st0
  have hn1 : n ≤ 1000 := by omega
  have hB0 := ((Below.refl w.heap.size w).alloc (Nat.le_refl _) (Obj.cells #[.int .i64 s.st, .int .i64 s.lb, .int .i64 s.s0, .slice a s.es.length c] 24)).alloc (by simp) (Obj.cells #[.slice none 0 0, .slice none 0 0, .slice none 0 0] 93)
  have hrb := heap_alloc_at (w.alloc (Obj.cells #[.int .i64 s.st, .int .i64 s.lb, .int .i64 s.s0, .slice a s.es.length c] 24)) (Obj.cells #[.slice none 0 0, .slice none 0 0, .slice none 0 0] 93) (w.heap.size + 1) (by simp)
  have hN := newPlayYes_any (c := c) h hn hn0 (hG.below hB0) (hS.below hB0 (Nat.le_refl _))
  have hneq := fun (W : World) (a : Option Addr) (m c : Nat) => run_neq_slice_nil_any (P := Tryz.prog) W 33 3 a m c 0 0 Tryz.underlying33
  have HN := hid hN; have HB0 := hid hB0; have HRB := hid hrb
  have HRN := hid h.norm; have HNN := hid hn
  clear hN hB0 hS hG h hst hrb hn
  go_enter Tryz.func51, Tryz.ntmps51
  go_wp2_with fail
  refine HN.out.mono ?_
  unfold PlayPost
  rintro e w1 ⟨w0, K, S, rfl, hsw, hbw⟩
  obtain ⟨rb, hrb⟩ : ∃ rb, rb = w.heap.size + 1 := ⟨_, rfl⟩
  rw [← hrb] at HRB ⊢
  have hrbl : rb < w0.heap.size := by have := hbw.size; simp at this; omega
  have hrbg : w.heap.size ≤ rb := by omega
  have HRB0 : Hid (w0.heap[rb]? = some (.cells #[.slice none 0 0, .slice none 0 0, .slice none 0 0] 93 (0, 0))) := hid ((hbw.block rb (by simp; omega)).trans HRB.out)
  have HBW := hid (HB0.out.trans (hbw.mono (by simp; omega)))
  have HSW := hid hsw
  have hst := getStates_any (hsw.gr.below hsw.par.rws.bel)
  rw [hsw.st] at hst
  have HST := hid hst
  obtain ⟨x0, _, _, _, _, _, _, xl⟩ := hsw.run.sCells
  have hnb : ((n : Int) == 0) = false := by simp; omega
  clear hsw hbw hrb hst HRB HB0 HN
  go_wp2_with fail
  refine HST.out.mono ?_
  rintro e w2 ⟨rfl, hB2⟩
  have hbg := begin_any (HSW.out.call hB2) (fun z _ => none_one n z) (fun p _ => by unfold z0; omega) (by simp)
  have HBG := hid hbg
  clear hB2 hbg HST x0 xl
  go_wp2_with fail
  refine HBG.out.mono ?_
  unfold BeginPost
  rintro e w3 ⟨rfl, K1, S1, el1, pl1, inn1, bl1, aa, ac, hsw1, hpb1, hxb1, hun1, hsb1⟩
  have hrs := RunS.begin hn0 hsb1
  have HSM := hid (smallest_any hsw1 (by simp) (by simp) (fun q _ => by unfold z0; simp))
  rw [hxb1] at HSM
  have HXB := hid hxb1; have HUN1 := hid hun1; have HRS := hid hrs; have HSW1 := hid hsw1
  clear hsw1 hpb1 hun1 hsb1 hrs hxb1 HBG HSW
  go_wp2_with fail
  refine HSM.out.mono ?_
  rintro e w4 hsp
  have HINIT : Hid (∃ (v : Value), e = .returned v ∧ ∃ (K' : PK) (S' : SK) (el pl inn hp ga : Nat → Nat) (bl : List B3) (sz : List Int) (tl : List Value) (rest : List Rw), S'.xb = S.xb ∧ RunS s.norm n inn hp ga sz ∧ (∀ z, z < n → ¬ Mkd pl inn bl z) ∧ PI n el pl inn bl ∧ GraphAt w0 S'.gb s.norm ∧ tl.length ≤ sz.length ∧ SmallPost w0 K' S' n el pl inn bl hp ga sz tl rest (.returned v) w4) := hid (by
    have h1 : ∃ v, e = .returned v := by
      rcases hsp with ⟨rfl, _⟩ | ⟨_, _, _, _, rfl, _⟩
      · exact ⟨_, rfl⟩
      · exact ⟨_, rfl⟩
    obtain ⟨v, rfl⟩ := h1
    exact ⟨v, rfl, K1, S1, el1, pl1, inn1, _, _, bl1, _, _, _, HXB.out, HRS.out, HUN1.out, HSW1.out.par.pi, HSW1.out.gr, by simp, hsp⟩)
  obtain ⟨v, rfl, hv⟩ := HINIT.out
  have HV := hid hv
  have hnst : s.norm.st = (n : Int) := HNN.out
  have HNST := hid hnst
  clear hv hnst HINIT hsp HSM HXB HUN1 HRS HSW1
  go_wp2_with fail
  go_loopg [6] (n + 1) (fun g v6 wr => ∃ (K' : PK) (S' : SK) (el pl inn hp ga : Nat → Nat) (bl : List B3) (sz : List Int) (tl : List Value) (rest : List Rw), n + 1 ≤ g + sz.length ∧ S'.xb = S.xb ∧ RunS s.norm n inn hp ga sz ∧ (∀ z, z < n → ¬ Mkd pl inn bl z) ∧ PI n el pl inn bl ∧ GraphAt w0 S'.gb s.norm ∧ tl.length ≤ sz.length ∧ SmallPost w0 K' S' n el pl inn bl hp ga sz tl rest (.returned v6) wr)
  case atStart =>
    obtain ⟨K', S', el, pl, inn, hp, ga, bl, sz, tl, rest, hr⟩ := HV.out
    exact ⟨K', S', el, pl, inn, hp, ga, bl, sz, tl, rest, by omega, hr⟩
  case round =>
    obtain ⟨K', S', el, pl, inn, hp, ga, bl, sz, tl, rest, hgk, hxb, hrs, hun, hpi, hgr, htl, hsp⟩ := hrel
    have HXB := hid hxb; have HRS := hid hrs; have HUN := hid hun; have HPI := hid hpi; have HGR := hid hgr
    have hfew := hrs.few
    clear hxb hrs hun hpi hgr HV
    rcases hsp with ⟨hv6, hone, hrw⟩ | ⟨b, c, g, cap, hv6, hbl, hcl, hbc, hbk1, hle, hpos, hrw⟩
    · have hv6 : u6 = .slice none 0 0 := Ending.returned.inj hv6
      subst hv6
      have HBIG := hid (HRS.out.done (heaps_one HPI.out HRS.out.run hone))
      have HGA := hid (fun p hp => HRS.out.gau.le (p := p) hp)
      have HRW := hid hrw
      have HC := hid (parClasses_any (rest := SR S' K'.pb n hp ga sz tl ++ rest) ⟨hrw, HPI.out, hn1⟩)
      have hx := (hrw.sub (List.sublist_append_right _ _)).sCells
      have x1 := hx.2.1
      have xl := hx.2.2.2.2.2.2.2
      rw [HXB.out] at x1 xl
      clear hx hone hrw HRS HUN HPI HGR
      go_upto_region 11 with fail
      go_wp2_with fail
      refine HC.out.mono ?_
      unfold OwnI
      rintro e w5 ⟨cv, rfl, hown, hB5⟩
      have hcl : (canon (flN n inn)).length = n := by rw [canon_len, flN_len]
      rw [hcl] at hown
      obtain ⟨cg, cc, rfl, hz1, hz2⟩ := hown.form hn0
      clear hz1 hz2
      have hr5 := HRW.out.call hB5
      have hxb := HXB.out
      have x4 := hr5.cell (i := 5) rfl (j := 4) rfl
      have xf := hr5.fz (i := 5) rfl 4
      have hr6 := hr5.set 5 rfl 4 (.slice (some ⟨cg, 0, none⟩) n cc)
      have y4 := hr6.cell (i := 5) rfl (j := 4) rfl
      have y5 := hr6.cell (i := 5) rfl (j := 5) rfl
      have y6 := hr6.cell (i := 5) rfl (j := 6) rfl
      have hsl := hr6.slO (i := 7) (ys := flN n ga) rfl lenI (flN_len n ga).symm
      have hqx : S'.qb ≠ S'.xb := hr6.ne' (i := 7) (j := 5) rfl rfl (by decide)
      have hqlo := (hr6.lt (i := 7) rfl).1
      have hxlo := (hr6.lt (i := 5) rfl).1
      have hxl := (hr5.lt (i := 5) rfl).2
      have hr5s := hr5.bel.size
      have hgl : ∀ k, (Value.slice (some ⟨cg, 0, none⟩) n cc).ownBlock = some k → wr.heap.size ≤ k := fun k hk => (hown.lt k hk).1
      have hxw := (HRW.out.lt (i := 5) rfl).2
      rw [hxb] at x4 xf hr6 y4 y5 y6 hqx hxlo hxl hxw hsl
      have hown6 : (w5.setCell ⟨S.xb, 4, none⟩ (.slice (some ⟨cg, 0, none⟩) n cc)).ownsRow wr.heap.size 3 1 (.slice (some ⟨cg, 0, none⟩) n cc) n ((canon (flN n inn)).flatMap encI) := own_blockR hown (fun k hk => Below.heap_setCell _ _ _ _ (by have := hgl k hk; show k ≠ S.xb; omega))
      have hrb := (hr6.bel.block rb hrbl).trans HRB0.out
      obtain ⟨Y, hY⟩ : ∃ Y, Y = w5.setCell ⟨S.xb, 4, none⟩ (.slice (some ⟨cg, 0, none⟩) n cc) := ⟨_, rfl⟩
      rw [← hY] at hown6 hrb hr6 y4 y5 y6 hsl
      have r0 : Y.cell? ⟨rb, 0, none⟩ = some (.slice none 0 0) := by simp [World.cell?, hrb]
      have r1 : Y.cell? ⟨rb, 1, none⟩ = some (.slice none 0 0) := by simp [World.cell?, hrb]
      have r2 : Y.cell? ⟨rb, 2, none⟩ = some (.slice none 0 0) := by simp [World.cell?, hrb]
      have rf : ∀ j, Y.frozen? ⟨rb, j, none⟩ = false := fun j => by simp [World.frozen?, hrb]
      have rf0 := rf 0; have rf1 := rf 1; have rf2 := rf 2
      have rl : rb < Y.heap.size := (Array.getElem?_eq_some_iff.1 hrb).1
      have xlY : S.xb < Y.heap.size := by rw [hY, size_setCell]; exact hxl
      have hbY := hid (HBW.out.trans (hr6.bel.mono HBW.out.size))
      have hwr : w0.heap.size ≤ wr.heap.size := HRW.out.bel.size
      have HSL := hid hsl; have HOWN := hid hown6; have HGL := hid hgl
      have hne : S'.qb ≠ rb := by omega
      have hxrb : S.xb ≠ rb := by omega
      have HY := hid hY
      clear hown hB5 hcl hr5 hr6 hsl hown6 hrb rf hgl hY hxb HC HRW HNST HRN HNN
      go_upto_region 12 with fail
      rw [← HY.out]
      go_wp2_with fail
      have hz1 : Hid (((((Y.setCell ⟨rb, 0, none⟩ (.slice (some ⟨cg, 0, none⟩) n cc)).setCell ⟨rb, 1, none⟩ (.slice S'.ta tl.length S'.tc)).setCell ⟨rb, 2, none⟩ (.slice (some ⟨S'.qb, 0, none⟩) n n)).ownsRow w.heap.size 3 1 (.slice (some ⟨cg, 0, none⟩) n cc) n ((canon (flN n inn)).flatMap encI))) := hid (by
        have hcg := HGL.out cg rfl
        have h1 : ∀ k, (Value.slice (some ⟨cg, 0, none⟩) n cc).ownBlock = some k → k ≠ rb := fun k hk => by simp only [Value.ownBlock, Option.some.injEq] at hk; omega
        have hws := HBW.out.size
        exact own_mono (own_blockR (own_blockR (own_blockR HOWN.out (fun k hk => Below.heap_setCell _ _ _ _ (h1 k hk))) (fun k hk => Below.heap_setCell _ _ _ _ (h1 k hk))) (fun k hk => Below.heap_setCell _ _ _ _ (h1 k hk))) (by omega))
      have hz2 : Hid (SlAt encI 1 (((Y.setCell ⟨rb, 0, none⟩ (.slice (some ⟨cg, 0, none⟩) n cc)).setCell ⟨rb, 1, none⟩ (.slice S'.ta tl.length S'.tc)).setCell ⟨rb, 2, none⟩ (.slice (some ⟨S'.qb, 0, none⟩) n n)) (some ⟨S'.qb, 0, none⟩) S'.qb 0 (flN n ga)) :=
        hid ((((show SlAt encI 1 Y (some ⟨S'.qb, 0, none⟩) S'.qb 0 (flN n ga) from HSL.out).setOther (p := ⟨rb, 0, none⟩) (fun _ => hne) _).setOther (p := ⟨rb, 1, none⟩) (fun _ => hne) _).setOther (p := ⟨rb, 2, none⟩) (fun _ => hne) _)
      have hz3 := hid (((hbY.out.setCell (p := ⟨rb, 0, none⟩) hrbg (.slice (some ⟨cg, 0, none⟩) n cc)).setCell (p := ⟨rb, 1, none⟩) hrbg (.slice S'.ta tl.length S'.tc)).setCell (p := ⟨rb, 2, none⟩) hrbg (.slice (some ⟨S'.qb, 0, none⟩) n n))
      refine bodyPost_ret (v := .tuple #[.agg #[.slice (some ⟨cg, 0, none⟩) n cc, .slice S'.ta tl.length S'.tc, .slice (some ⟨S'.qb, 0, none⟩) n n], .nilIface]) (by simp [results, Tryz.results51, go_sem, r0, r1, r2]) rfl ?_
      exact ⟨inn, ga, _, _, _, _, _, _, S'.qb, n, HBIG.out, HGA.out, rfl, hz1.out, hz2.out, hz3.out⟩
    · have hv6 : u6 = .slice (some ⟨g, 0, none⟩) (memN n inn b).length cap := Ending.returned.inj hv6
      subst hv6
      have hI : ∀ w', Rws w0 w' (⟨3, 1, .slice (some ⟨g, 0, none⟩) (memN n inn b).length cap, (memN n inn b).length, ((memN n inn b).map Int.ofNat).flatMap encI⟩ :: rest) → SlAt encI 1 w' (some ⟨g, 0, none⟩) g 0 ((memN n inn b).map Int.ofNat) := fun w' hw => hw.slO (i := 0) rfl lenI (by simp)
      have hsw : SW w0 wr s.norm K' S' n el pl inn bl hp ga sz tl (⟨3, 1, .slice (some ⟨g, 0, none⟩) (memN n inn b).length cap, (memN n inn b).length, ((memN n inn b).map Int.ofNat).flatMap encI⟩ :: rest) := ⟨⟨hrw.dig, HPI.out, hn1⟩, HGR.out, HNST.out⟩
      obtain ⟨p0, hp0⟩ : ∃ p0, (memN n inn b)[0]? = some p0 := ⟨_, List.getElem?_eq_getElem hpos⟩
      have hpm := mem_memN.1 (List.mem_of_getElem? hp0)
      have hph := hbk_of HPI.out HRS.out.run hbl p0 hpm.1 hpm.2
      have hsz := HRS.out.szs (hp p0) (HRS.out.run.rng p0 hpm.1)
      have hmle := memN_le (n := n) hp (hp p0)
      have hT := take_any hsw HUN.out (fun p hpn => Nat.le_trans (HRS.out.gau.small hpn) (by omega)) (by omega) (by omega) (fun t ht => (mem_memN.1 ht).1) (memN_nodup inn b) hp0 hsz ⟨by omega, by omega⟩ (ic := cap) hI
      rw [HXB.out] at hT
      have HT := hid hT
      have HB := hid (hbk_of HPI.out HRS.out.run hbl)
      have HCC := hid (hbk_of HPI.out HRS.out.run hcl)
      have HPH := hid hph; have HBC := hid hbc; have HBK := hid hbk1; have HLE := hid hle; have HPOS := hid hpos
      obtain ⟨ml, hml⟩ : ∃ ml, ml = (memN n inn b).length := ⟨_, rfl⟩
      rw [← hml] at HT ⊢
      have HML := hid hml
      clear hI hsw hp0 hpm hph hsz hmle hT hrw hbl hcl hbc hbk1 hle hpos hml
      go_wp2_with fail
      refine HT.out.mono ?_
      unfold TakePost
      rintro e w5 ⟨rfl, K2, S2, el2, pl2, inn1, inn2, bl2, sh, hsh, hsw2, hpb2, hxb2, hun2, hs1, hs2⟩
      have hrs2 := HRS.out.take (b := b) (c := c) (h := hp p0) (fun q hq e => by rw [HB.out q hq e, HPH.out]) (fun q hq e => by rw [HCC.out q hq e, HPH.out]; exact HBK.out.symm) HBC.out HLE.out HPOS.out hs1 hs2 hsh
      have hlen2 : ((sz ++ [((memN n inn b).length : Int)]).set (hp p0) (sh - (memN n inn b).length)).length = sz.length + 1 := by simp
      have hfew2 := hrs2.few
      have HSM := smallest_any hsw2 (by omega) (by rw [hlen2]; omega) (fun q hq => hrs2.run.rng q hq)
      have hxb3 := hxb2.trans HXB.out
      rw [hxb3] at HSM
      have HSM := hid HSM
      have HRS2 := hid hrs2; have HUN2 := hid hun2; have HPI2 := hid hsw2.par.pi; have HGR2 := hid hsw2.gr; have HXB3 := hid hxb3; have HL2 := hid hlen2
      clear hsh hsw2 hpb2 hxb2 hun2 hs1 hs2 hrs2 hlen2 hfew2 hxb3 HT HRS HUN HPI HGR HB HCC
      go_wp2_with fail
      refine HSM.out.mono ?_
      rintro e w6 hsp
      have h1 : ∃ v, e = .returned v := by
        rcases hsp with ⟨rfl, _⟩ | ⟨_, _, _, _, rfl, _⟩
        · exact ⟨_, rfl⟩
        · exact ⟨_, rfl⟩
      obtain ⟨v, rfl⟩ := h1
      have HSP := hid hsp
      clear hsp HSM
      go_wp2_with fail
      go_roundg (gk - 1)
      case rel => exact ⟨K2, S2, el2, pl2, inn2, _, _, bl2, _, _, _, by rw [HL2.out]; omega, HXB3.out, HRS2.out, HUN2.out, HPI2.out, HGR2.out, by rw [HL2.out]; simp; omega, HSP.out⟩
      case measure => omega
end Go.Proofs.YtdhloijdefnkpaaGreatDoor

/-
  strong.newPlay.
-/
import Derived.Test.YtopnedihknjjfaaGreatDoorStrD
import Derived.Test.YtopnedihknjjfaaGreatDoorAs
import Derived.Test.YtopnedihknjjfaaGreatDoorNewC
import Derived.Test.YtopnedihknjjfaaGreatDoorGNew
namespace Go.Proofs.YtopnedihknjjfaaGreatDoor
open Go.RowKit Pl

def strName : ByteArray := ⟨#[115, 116, 114, 111, 110, 103]⟩
/-- A fault of this layer over one of the layer system. -/
def FaultS (w : World) (p : Addr) (v : Value) : Prop :=
  ∃ vi, FaultAt w v strName vi ∧ FaultAt w vi sysName (.iface 246 (.pointer (some p)))
theorem FaultS.below {w w' : World} {p : Addr} {v : Value} (h : FaultS w p v) (hB : Below w.heap.size w w') : FaultS w' p v := by
  obtain ⟨vi, h1, h2⟩ := h
  exact ⟨vi, h1.below hB, h2.below hB⟩

set_option maxRecDepth 100000 in
theorem newPlayNo_any {p : Addr} {s : Lts} (h : ¬ s.Right) {a : Option Addr} {b off c : Nat} {w : World} (hG : GErr 0 p w) (hT : ErrType w) (hS : SlAt encE 3 w a b off s.es) :
    Calls Tryz.prog 88 #[.agg #[.int .i64 s.st, .int .i64 s.lb, .int .i64 s.s0, .slice a s.es.length c]] w fun e w' =>
      ∃ v, e = .returned (.tuple #[.pointer none, v]) ∧ FaultS w' p v ∧ Below w.heap.size w w' := by
  have hB0 := (Below.refl w.heap.size w).alloc (Nat.le_refl _) (Obj.cells #[.int .i64 s.st, .int .i64 s.lb, .int .i64 s.s0, .slice a s.es.length c] 24)
  have hN := new_no (c := c) h (hG.below hB0) (hS.below hB0 (Nat.le_refl _))
  have HN := Lib.hid hN; have HT := Lib.hid (hT.below hB0); have HB0 := Lib.hid hB0
  clear hN hT hB0 hS hG h
  go_enter Tryz.func88, Tryz.ntmps88
  go_wp2_with fail
  refine HN.out.mono ?_
  rintro e w1 ⟨v, rfl, hF, hB1⟩
  have HF := Lib.hid hF
  obtain ⟨fb, rfl, hfb⟩ := hF.ex
  have HT1 := Lib.hid (HT.out.below hB1)
  have HA := Lib.hid (faultAs_any strName HT1.out hfb)
  have HB1 := Lib.hid (HB0.out.trans (hB1.mono (by simp)))
  clear hB1 hfb hF
  go_wp2_with fail
  refine HA.out.mono ?_
  rintro e w2 ⟨v, rfl, hF2, hB2⟩
  have hf3 := HF.out.below hB2
  have HR : RowKit.Hid (FaultS w2 p v) := Lib.hid ⟨_, hF2, hf3⟩
  have HB2 := Lib.hid (HB1.out.trans (hB2.mono HB1.out.size))
  clear hF2 hf3 hB2
  go_wp2
  go_ret2
  exact ⟨v, rfl, HR.out, HB2.out⟩

/-- What newPlay answers of a right system that has states. -/
def PlayPost (s : Lts) (n : Nat) (w : World) (e : Ending) (w' : World) : Prop :=
  ∃ (w0 : World) (K : PK) (S : SK), e = .returned (.tuple #[.pointer (some ⟨S.xb, 0, none⟩), .nilIface]) ∧ SW w0 w' s.norm K S n id id z0 [(0, n, 0)] z0 z0 [] [] [] ∧ Below w.heap.size w w0

set_option maxRecDepth 100000 in
set_option maxHeartbeats 2000000 in
theorem newPlayYes_any {p : Addr} {s : Lts} {n : Nat} (h : s.Right) (hn : s.st = (n : Int)) (hn0 : 0 < n) {a : Option Addr} {b off c : Nat} {w : World} (hG : GErr 0 p w) (hS : SlAt encE 3 w a b off s.es) :
    Calls Tryz.prog 88 #[.agg #[.int .i64 s.st, .int .i64 s.lb, .int .i64 s.s0, .slice a s.es.length c]] w (PlayPost s n w) := by
  have hst := h.st0
  have hn1 : n ≤ 1000 := by omega
  have hB0 := (Below.refl w.heap.size w).alloc (Nat.le_refl _) (Obj.cells #[.int .i64 s.st, .int .i64 s.lb, .int .i64 s.s0, .slice a s.es.length c] 24)
  have hN := new_ok (c := c) h (hG.below hB0) (hS.below hB0 (Nat.le_refl _))
  have hmk := run_make_row' (P := Tryz.prog) 27 3 (.int .i64 0) 8 Tryz.underlying27 (by kernel_rfl) rfl .i64 .i64 n (by omega) (by omega)
  have HN := Lib.hid hN; have HB0 := Lib.hid hB0; have HNN := Lib.hid hn
  have hnn : s.norm.st = (n : Int) := hn
  have HNM := Lib.hid hnn
  clear hN hB0 hS hG h hn hst hnn
  go_enter Tryz.func88, Tryz.ntmps88
  go_wp2_with fail
  refine HN.out.mono ?_
  rintro e w0 ⟨gb, rfl, hGr, hB1, _⟩
  have HGR := Lib.hid hGr
  have HW0 := Lib.hid (HB0.out.trans (hB1.mono (by simp)))
  have hs1 := getStates_any hGr
  rw [HNM.out] at hs1
  have HS1 := Lib.hid hs1
  clear hGr hB1 hs1 HN HB0
  go_wp2_with fail
  refine HS1.out.mono ?_
  rintro e w1 ⟨rfl, hB1⟩
  have hr1 := ((Rws.nil hB1).addLit (madeCells #[.int .i64 0] n) 3 (k := 1) (n := n) (by unfold maxLen; omega) (by simp [size_madeCells])).addLit #[.pointer (some ⟨gb, 0, none⟩), .pointer none, .slice (some ⟨w1.heap.size, 0, none⟩) n n, .slice none 0 0, .slice none 0 0, .slice none 0 0, .slice none 0 0] 127 (k := 7) (n := 1) (by unfold maxLen; omega) rfl
  rw [madeI] at hr1
  have hz1 : (w1.alloc (.cells (madeCells #[.int .i64 0] n) 3)).heap.size = w1.heap.size + 1 := by simp
  rw [hz1] at hr1
  have HR1 := Lib.hid hr1
  clear hr1 hz1 hB1 HS1
  go_upto_region 5 with fail
  obtain ⟨V, hV⟩ : ∃ V, V = (w1.alloc (.cells (madeCells #[.int .i64 0] n) 3)).alloc (.cells #[.pointer (some ⟨gb, 0, none⟩), .pointer none, .slice (some ⟨w1.heap.size, 0, none⟩) n n, .slice none 0 0, .slice none 0 0, .slice none 0 0, .slice none 0 0] 127) := ⟨_, rfl⟩
  obtain ⟨hb, hhb⟩ : ∃ hb, hb = w1.heap.size := ⟨_, rfl⟩
  obtain ⟨xb, hxb⟩ : ∃ xb, xb = w1.heap.size + 1 := ⟨_, rfl⟩
  rw [← hV] at HR1 ⊢
  rw [← hhb] at HR1 hxb ⊢
  rw [← hxb] at HR1 ⊢
  clear hV hhb hxb
  have hs2 := getStates_any (HGR.out.below HR1.out.bel)
  rw [HNM.out] at hs2
  have HS2 := Lib.hid hs2
  clear hs2
  go_wp2_with fail
  refine HS2.out.mono ?_
  rintro e w2 ⟨rfl, hB2⟩
  have HNEW := Lib.hid (parNew_any (HR1.out.call hB2) hn0 hn1)
  clear hB2 HS2
  go_wp2_with fail
  refine HNEW.out.mono ?_
  rintro e w3 ⟨K, rfl, hpw⟩
  have HPW := Lib.hid hpw
  have x1 := hpw.rws.cell (i := 5) rfl (j := 1) rfl
  have xf := hpw.rws.fz (i := 5) rfl 1
  have xl := (hpw.rws.lt (i := 5) rfl).2
  have hr4 := ((hpw.rws.set 5 rfl 1 (.pointer (some ⟨K.pb, 0, none⟩))).addNil 27 1).addNil 3 1
  have HR4 := Lib.hid hr4
  clear hpw hr4 HNEW HR1
  go_upto_region 6 with fail
  obtain ⟨Y, hY⟩ : ∃ Y, Y = w3.setCell ⟨xb, 1, none⟩ (.pointer (some ⟨K.pb, 0, none⟩)) := ⟨_, rfl⟩
  rw [← hY] at HR4 ⊢
  clear hY x1 xf xl
  have hs3 := getStates_any (HGR.out.below HR4.out.bel)
  rw [HNM.out] at hs3
  have HS3 := Lib.hid hs3
  clear hs3
  go_wp2_with fail
  refine HS3.out.mono ?_
  rintro e w5 ⟨rfl, hB5⟩
  have hr5 := HR4.out.call hB5
  have x6 := hr5.cell (i := 7) rfl (j := 6) rfl
  have xf := hr5.fz (i := 7) rfl 6
  have xl := (hr5.lt (i := 7) rfl).2
  have hr6 := (hr5.set 7 rfl 6 (.slice (some ⟨w5.heap.size, 0, none⟩) n n)).addLit (madeCells #[.int .i64 0] n) 3 (k := 1) (n := n) (by unfold maxLen; omega) (by simp [size_madeCells])
  rw [madeI, size_setCell] at hr6
  have hr7 := hr6.perm (List.perm_append_comm (l₁ := [_, _, _]))
  have hsw : SW w0 ((w5.setCell ⟨xb, 6, none⟩ (.slice (some ⟨w5.heap.size, 0, none⟩) n n)).alloc (.cells (madeCells #[.int .i64 0] n) 3)) s.norm K ⟨xb, gb, hb, w5.heap.size, none, 0, none, 0⟩ n id id z0 [(0, n, 0)] z0 z0 [] [] [] := ⟨⟨hr7, HPW.out.pi, hn1⟩, HGR.out, HNM.out⟩
  have HSW := Lib.hid hsw
  clear hB5 hr5 hr6 hr7 hsw HS3
  go_wp2_with fail
  go_ret2
  exact ⟨w0, K, _, rfl, HSW.out, HW0.out⟩
end Go.Proofs.YtopnedihknjjfaaGreatDoor

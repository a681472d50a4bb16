/-
  strong.Replay of a system without states, and of one that is not right.
  law9.alive, law9.small.
-/
import Derived.Test.YtfakdgljilmpkaaGreatDoorStrP
import Derived.Test.YtfakdgljilmpkaaGreatDoorStrK
import Derived.Test.YtfakdgljilmpkaaGreatDoorGPlT
namespace Go.Proofs.YtfakdgljilmpkaaGreatDoor
open Go.RowKit Pl

set_option maxRecDepth 100000 in
theorem parBlocksZ_any {w : World} {pb : Nat} (h : ParZ w pb) : Calls Tryz.prog 117 #[.pointer (some ⟨pb, 0, none⟩)] w fun e w' => e = .returned (.int .i64 0) ∧ w = w' := by
  obtain ⟨qb, bb, ia, ic, h⟩ := h
  have c3 : w.cell? ⟨pb, 3, none⟩ = some (.slice (some ⟨bb, 0, none⟩) 0 0) := by simp [World.cell?, h]
  have l0 := (Array.getElem?_eq_some_iff.1 h).1
  clear h
  go_enter Tryz.func117, Tryz.ntmps117
  go_wp2_with fail
  refine (parOwn_any w pb).mono ?_
  rintro e w1 ⟨rfl, rfl⟩
  go_wp2_with fail
  go_ret
  exact ⟨rfl, rfl⟩

set_option maxRecDepth 100000 in
theorem parClassesZ_any {w : World} {pb : Nat} (h : ParZ w pb) : Calls Tryz.prog 52 #[.pointer (some ⟨pb, 0, none⟩)] w fun e w' => ∃ (a : Option Addr) (c : Nat), e = .returned (.slice a 0 c) ∧ w'.ownsRow w.heap.size 3 1 (.slice a 0 c) 0 [] ∧ Below w.heap.size w w' := by
  obtain ⟨qb, bb, ia, ic, h⟩ := h
  have c2 : w.cell? ⟨pb, 2, none⟩ = some (.slice ia 0 ic) := by simp [World.cell?, h]
  have l0 := (Array.getElem?_eq_some_iff.1 h).1
  have HC := Lib.hid (canon_any (xs := []) (a := ia) (c := ic) (w := w) (b := 0) (off := 0) (slAt_nil _ _ _ _) (by simp) (by simp))
  clear h
  go_enter Tryz.func52, Tryz.ntmps52
  go_wp2_with fail
  refine (parOwn_any w pb).mono ?_
  rintro e w1 ⟨rfl, rfl⟩
  go_wp2_with fail
  refine HC.out.mono ?_
  rintro e w1 ⟨v, rfl, hown, hB⟩
  have hown2 : w1.ownsRow w.heap.size 3 1 v 0 [] := hown
  obtain ⟨a, c, _, rfl, _⟩ := slAt_own (enc := encI) (xs := []) lenI hown2
  have HO := Lib.hid hown2; have HB := Lib.hid hB
  clear hown hown2 hB
  go_wp2_with fail
  go_ret
  exact ⟨a, c, rfl, HO.out, HB.out⟩

set_option maxRecDepth 100000 in
theorem blocksZ_any {w : World} {xb gb : Nat} (h : PlayZ w xb gb) : Calls Tryz.prog 82 #[.pointer (some ⟨xb, 0, none⟩)] w fun e w' => ∃ ob, e = .returned (.slice (some ⟨ob, 0, none⟩) 0 0) ∧ Below w.heap.size w w' := by
  obtain ⟨pb, hb, qb, hx, hp⟩ := h
  have x1 : w.cell? ⟨xb, 1, none⟩ = some (.pointer (some ⟨pb, 0, none⟩)) := by simp [World.cell?, hx]
  have x3 : w.cell? ⟨xb, 3, none⟩ = some (.slice none 0 0) := by simp [World.cell?, hx]
  have xl := (Array.getElem?_eq_some_iff.1 hx).1
  have hmk : ∀ w, (Instr.makeSlice 26 (.int .i64 0) (.int .i64 0)).run Tryz.prog w = .ok (.slice (some ⟨w.heap.size, 0, none⟩) 0 0) (w.alloc (.cells #[] 33)) := fun _ => by kernel_rfl
  have hB := (Below.refl w.heap.size w).alloc (Nat.le_refl _) (.cells #[] 33)
  have HPB := Lib.hid (parBlocksZ_any (hp.below hB))
  have HB := Lib.hid hB
  clear hx hp hB
  go_enter Tryz.func82, Tryz.ntmps82
  go_wp2_with fail
  refine HPB.out.mono ?_
  rintro e w1 ⟨rfl, rfl⟩
  clear HPB
  go_wp2_with fail
  refine wp_loop_rounds 1 ?_
  rw [rounds_succ]
  go_wp2_with fail
  go_ret
  exact ⟨_, rfl, HB.out⟩

theorem PlayZ.below {w w' : World} {xb gb : Nat} (h : PlayZ w xb gb) (hB : Below w.heap.size w w') : PlayZ w' xb gb := by
  obtain ⟨pb, hb, qb, hx, hp⟩ := h
  exact ⟨pb, hb, qb, (hB.block xb (Array.getElem?_eq_some_iff.1 hx).1).trans hx, hp.below hB⟩

set_option maxRecDepth 100000 in
set_option maxHeartbeats 4000000 in
theorem replayZero_any {p pc : Addr} {s : Lts} (h : s.Right) (hn : s.st = 0) {a : Option Addr} {b off c : Nat} {w : World} (hG : GErr 0 p w) (hC : GErr 2 pc w) (hS : SlAt encE 3 w a b off s.es)
    {T : List (List Int)} (hT : T.length ≤ 9223372036854775807) {ta : Option Addr} {tb tf tc : Nat} {vs : List Value} (hI : IRows w ta tb tf vs T) :
    Calls Tryz.prog 39 #[.agg #[.int .i64 s.st, .int .i64 s.lb, .int .i64 s.s0, .slice a s.es.length c], .slice ta T.length tc] w (RepPost s.norm 0 T pc w) := by
  have hB0 := (Below.refl w.heap.size w).alloc (Nat.le_refl _) (Obj.cells #[.int .i64 s.st, .int .i64 s.lb, .int .i64 s.s0, .slice a s.es.length c] 24)
  have hN := newPlayZero_any (c := c) h hn (hG.below hB0) (hS.below hB0 (Nat.le_refl _))
  have HN := Lib.hid hN; have HB0 := Lib.hid hB0; have HC := Lib.hid hC; have HI := Lib.hid hI
  obtain ⟨m, hm⟩ : ∃ m, m = T.length := ⟨_, rfl⟩
  rw [← hm] at hT ⊢
  have HM := Lib.hid hm
  have HBAD : RowKit.Hid (PlayBad s.norm 0 T) := Lib.hid (.inl rfl)
  clear hN hB0 hS hG h hn hC hI hm
  go_enter Tryz.func39, Tryz.ntmps39
  go_wp2_with fail
  refine HN.out.mono ?_
  rintro e w1 ⟨xb, gb, rfl, hpz, _, hB1⟩
  have hbr := HB0.out.trans (hB1.mono (by simp))
  have HBR := Lib.hid hbr
  have HPZ := Lib.hid hpz
  have HIR := Lib.hid (HI.out.below hbr); have HCR := Lib.hid (HC.out.below hbr)
  clear hbr hB1 hpz HN HB0
  rcases Nat.eq_zero_or_pos m with rfl | hm0
  · have HBK := Lib.hid (blocksZ_any HPZ.out)
    obtain ⟨pb, hb, qb, hx, hp⟩ := HPZ.out
    have x2 : w1.cell? ⟨xb, 2, none⟩ = some (.slice (some ⟨hb, 0, none⟩) 0 0) := by simp [World.cell?, hx]
    have xl := (Array.getElem?_eq_some_iff.1 hx).1
    clear hx hp hT
    go_wp2_with fail
    refine wp_loop_rounds 1 ?_
    rw [rounds_succ]
    go_wp2_with fail
    refine HBK.out.mono ?_
    rintro e w2 ⟨ob, rfl, hB2⟩
    have HPZ2 := Lib.hid (HPZ.out.below hB2)
    have HB2 := Lib.hid (HBR.out.trans (hB2.mono HBR.out.size))
    clear hB2 x2 xl HBK
    obtain ⟨pb, hb, qb, hx, hp⟩ := HPZ2.out
    have x1 : w2.cell? ⟨xb, 1, none⟩ = some (.pointer (some ⟨pb, 0, none⟩)) := by simp [World.cell?, hx]
    have xl := (Array.getElem?_eq_some_iff.1 hx).1
    have HCL := Lib.hid (parClassesZ_any hp)
    clear hx hp
    go_wp2_with fail
    refine wp_loop_rounds 1 ?_
    rw [rounds_succ]
    go_wp2_with fail
    refine HCL.out.mono ?_
    rintro e w3 ⟨ca, cc, rfl, hown, hB3⟩
    have HO := Lib.hid (own_mono hown HB2.out.size)
    have HB3 := Lib.hid (HB2.out.trans (hB3.mono HB2.out.size))
    clear hown hB3 HCL
    go_wp2_with fail
    go_ret2
    exact ⟨.inl ⟨fun _ => 0, ca, cc, ⟨fun p q hp => by omega, fun R _ p q hp => by omega⟩, rfl, HO.out⟩, HB3.out⟩
  · obtain ⟨L, hL⟩ : ∃ L, T[0]? = some L := ⟨_, List.getElem?_eq_getElem (by rw [← HM.out]; exact hm0)⟩
    obtain ⟨hLl, ia, ib, io, ic, hv, hs⟩ := HIR.out.row 0 L hL
    have hvl : 0 < vs.length := by have := (List.getElem?_eq_some_iff.1 hv).1; omega
    obtain rfl := HIR.out.sl.ad hvl
    have d0 := HIR.out.sl.cv hv
    have dl := HIR.out.sl.lt hvl
    obtain ⟨pb, hb, qb, hx, hp⟩ := HPZ.out
    have x2 : w1.cell? ⟨xb, 2, none⟩ = some (.slice (some ⟨hb, 0, none⟩) (0 : Nat) (0 : Nat)) := by simp [World.cell?, hx]
    have HALL := Lib.hid (all_gen (ic := ic) x2 (by omega) hLl hs)
    obtain ⟨ll, hll⟩ : ∃ ll, ll = L.length := ⟨_, rfl⟩
    have hL0 : ll ≠ 0 → decide (L = (List.range 0).map Int.ofNat) = false := fun h => by
      rw [decide_eq_false_iff_not]
      intro e
      rw [e] at hll
      simp at hll
      omega
    rw [← hll] at HALL d0 hLl
    have hg := HCR.out.cell
    have hgl := HCR.out.lt
    have HBE := HBR
    simp only [Nat.add_zero] at d0
    have hkI : (0 : Int) < (m : Int) := by omega
    clear hL hv hs hll x2 hx hp HPZ
    go_wp2_with fail
    refine wp_loop_rounds 1 ?_
    rw [rounds_succ]
    by_cases hl0 : ll = 0
    · have c4 : decide ((ll : Int) > 0) = false := by simp; omega
      go_wp2_with fail
      refine (faultNew_any _ _ _ _).mono ?_
      rintro e w5 ⟨rfl, rfl⟩
      go_wp2_with fail
      go_ret2
      exact ⟨.inr ⟨_, rfl, ⟨_, rfl, heap_alloc_new _ _⟩, HBAD.out⟩, HBE.out.alloc HBE.out.size _⟩
    · have c4 : decide ((ll : Int) > 0) = true := by simp; omega
      rw [hL0 hl0] at HALL
      clear hL0
      go_wp2_with fail
      refine HALL.out.mono ?_
      rintro e w4 ⟨rfl, hB4⟩
      have hg4 := (HCR.out.below hB4).cell
      have hgl4 := (HCR.out.below hB4).lt
      have HBF := Lib.hid (HBR.out.trans (hB4.mono HBR.out.size))
      clear hB4 hg hgl d0 dl HALL
      go_wp2_with fail
      refine (faultNew_any _ _ _ _).mono ?_
      rintro e w5 ⟨rfl, rfl⟩
      go_wp2_with fail
      go_ret2
      exact ⟨.inr ⟨_, rfl, ⟨_, rfl, heap_alloc_new _ _⟩, HBAD.out⟩, HBF.out.alloc HBF.out.size _⟩

set_option maxRecDepth 100000 in
set_option maxHeartbeats 1000000 in
theorem replayNo_any {p : Addr} {s : Lts} (h : ¬ s.Right) {a : Option Addr} {b off c : Nat} {w : World} (hG : GErr 0 p w) (hT : ErrType w) (hS : SlAt encE 3 w a b off s.es) {ta : Option Addr} {m tc : Nat} :
    Calls Tryz.prog 39 #[.agg #[.int .i64 s.st, .int .i64 s.lb, .int .i64 s.s0, .slice a s.es.length c], .slice ta m tc] w fun e w' => ∃ v, e = .returned (.tuple #[.slice none 0 0, v]) ∧ FaultS w' p v ∧ Below w.heap.size w w' := by
  have hB0 := (Below.refl w.heap.size w).alloc (Nat.le_refl _) (Obj.cells #[.int .i64 s.st, .int .i64 s.lb, .int .i64 s.s0, .slice a s.es.length c] 24)
  have hN := newPlayNo_any (c := c) h (hG.below hB0) (hT.below hB0) (hS.below hB0 (Nat.le_refl _))
  have HN := Lib.hid hN; have HB0 := Lib.hid hB0
  clear hN hB0 hS hG hT h
  go_enter Tryz.func39, Tryz.ntmps39
  go_wp2_with fail
  refine HN.out.mono ?_
  rintro e w2 ⟨v, rfl, hf, hB1⟩
  have HF := Lib.hid hf
  have HB1 := Lib.hid (HB0.out.trans (hB1.mono (by simp)))
  obtain ⟨vi, ⟨⟨f1, rfl, _⟩⟩, _⟩ := hf
  clear hB1 HN HB0
  go_wp2_with fail
  go_ret2
  exact ⟨_, rfl, HF.out, HB1.out⟩

/-- strong.Replay of a right system. -/
theorem replay_any {p pc : Addr} {s : Lts} {n : Nat} (h : s.Right) (hn : s.st = (n : Int)) {a : Option Addr} {b off c : Nat} {w : World} (hG : GErr 0 p w) (hC : GErr 2 pc w) (hS : SlAt encE 3 w a b off s.es)
    {T : List (List Int)} (hT : T.length ≤ 9223372036854775807) {ta : Option Addr} {tb tf tc : Nat} {vs : List Value} (hI : IRows w ta tb tf vs T) :
    Calls Tryz.prog 39 #[.agg #[.int .i64 s.st, .int .i64 s.lb, .int .i64 s.s0, .slice a s.es.length c], .slice ta T.length tc] w (RepPost s.norm n T pc w) := by
  rcases Nat.eq_zero_or_pos n with rfl | hn0
  · exact replayZero_any h hn hG hC hS hT hI
  · exact replayYes_any h hn hn0 hG hC hS hT hI
end Go.Proofs.YtfakdgljilmpkaaGreatDoor

namespace Go.Proofs.YtfakdgljilmpkaaGreatDoor
open Go.RowKit Pl

theorem sys9 {w : World} {B : Nat} {x y z : Int} {v : Value} (h : w.heap[B]? = some (.cells #[.int .i64 x, .int .i64 y, .int .i64 z, v] 24 (0, 0))) :
    w.cell? ⟨B, 0, none⟩ = some (.int .i64 x) ∧ w.cell? ⟨B, 1, none⟩ = some (.int .i64 y) ∧ w.cell? ⟨B, 2, none⟩ = some (.int .i64 z) ∧ w.cell? ⟨B, 3, none⟩ = some v ∧ B < w.heap.size := by
  refine ⟨?_, ?_, ?_, ?_, (Array.getElem?_eq_some_iff.1 h).1⟩ <;> simp [World.cell?, h]

theorem al9_right : al9.Right := ⟨by unfold HeadBad al9; simp, by decide⟩
theorem al9_norm : al9.norm = al9 := by
  unfold Lts.norm
  have : nf ltE al9.es = al9.es := by decide
  rw [this]
theorem al9_cls {inn : Nat → Nat} (h : Big al9 4 (fun p => (inn p : Int))) : canon (flN 4 inn) = [0, 1, 2, 1] := by
  unfold flN
  exact cls9 h

/-- The run of the witness, in memory. -/
theorem rows9 {w : World} : ∃ V : World, V = (((w.alloc (.cells #[.int .i64 0, .int .i64 1, .int .i64 2, .int .i64 3] 3)).alloc (.cells #[.int .i64 2] 3)).alloc (.cells #[.int .i64 0] 3)).alloc (.cells #[.slice (some ⟨w.heap.size, 0, none⟩) 4 4, .slice (some ⟨w.heap.size + 1, 0, none⟩) 1 1, .slice (some ⟨w.heap.size + 2, 0, none⟩) 1 1] 33) ∧
    Below w.heap.size w V ∧ ∃ vs, IRows V (some ⟨w.heap.size + 3, 0, none⟩) (w.heap.size + 3) 0 vs run9 := by
  refine ⟨_, rfl, ?_, [.slice (some ⟨w.heap.size, 0, none⟩) 4 4, .slice (some ⟨w.heap.size + 1, 0, none⟩) 1 1, .slice (some ⟨w.heap.size + 2, 0, none⟩) 1 1], ?_⟩
  · exact ((((Below.refl w.heap.size w).alloc (Nat.le_refl _) _).alloc (by simp) _).alloc (by simp; omega) _).alloc (by simp; omega) _
  · have h1 := (Rws.nil (Below.refl w.heap.size w)).addLit #[.int .i64 0, .int .i64 1, .int .i64 2, .int .i64 3] 3 (k := 1) (n := 4) (by decide) rfl
    have h2 := h1.addLit #[.int .i64 2] 3 (k := 1) (n := 1) (by decide) rfl
    have h3 := h2.addLit #[.int .i64 0] 3 (k := 1) (n := 1) (by decide) rfl
    have h4 := h3.addLit #[.slice (some ⟨w.heap.size, 0, none⟩) 4 4, .slice (some ⟨w.heap.size + 1, 0, none⟩) 1 1, .slice (some ⟨w.heap.size + 2, 0, none⟩) 1 1] 33 (k := 1) (n := 3) (by decide) rfl
    have s0 := h4.slO (enc := encV) (i := 0) (ys := [.slice (some ⟨w.heap.size, 0, none⟩) 4 4, .slice (some ⟨w.heap.size + 1, 0, none⟩) 1 1, .slice (some ⟨w.heap.size + 2, 0, none⟩) 1 1]) rfl lenV rfl
    have s1 := h4.slO (enc := encI) (i := 1) (ys := [0]) rfl lenI rfl
    have s2 := h4.slO (enc := encI) (i := 2) (ys := [2]) rfl lenI rfl
    have s3 := h4.slO (enc := encI) (i := 3) (ys := [0, 1, 2, 3]) rfl lenI rfl
    have z1 : (w.alloc (.cells #[.int .i64 0, .int .i64 1, .int .i64 2, .int .i64 3] 3)).heap.size = w.heap.size + 1 := by simp
    have z2 : ((w.alloc (.cells #[.int .i64 0, .int .i64 1, .int .i64 2, .int .i64 3] 3)).alloc (.cells #[.int .i64 2] 3)).heap.size = w.heap.size + 2 := by simp
    have z3 : (((w.alloc (.cells #[.int .i64 0, .int .i64 1, .int .i64 2, .int .i64 3] 3)).alloc (.cells #[.int .i64 2] 3)).alloc (.cells #[.int .i64 0] 3)).heap.size = w.heap.size + 3 := by simp
    rw [z3] at s0
    rw [z2] at s1
    rw [z1] at s2
    refine ⟨s0, rfl, fun k L hL => ?_⟩
    have hk : k < 3 := (List.getElem?_eq_some_iff.1 hL).1
    have hh : k = 0 ∨ k = 1 ∨ k = 2 := by omega
    rcases hh with rfl | rfl | rfl
    · obtain rfl : [0, 1, 2, 3] = L := Option.some.inj hL
      exact ⟨by decide, _, _, _, _, rfl, s3⟩
    · obtain rfl : [2] = L := Option.some.inj hL
      exact ⟨by decide, _, _, _, _, rfl, s2⟩
    · obtain rfl : [0] = L := Option.some.inj hL
      exact ⟨by decide, _, _, _, _, rfl, s1⟩

set_option maxRecDepth 100000 in
set_option maxHeartbeats 4000000 in
theorem alive9_any {w : World} {p pc : Addr} (hG : GErr 0 p w) (hC : GErr 2 pc w) :
    Calls Tryz.prog 16 #[] w fun e w' => e = .returned (.bool true) ∧ Below w.heap.size w w' := by
  have HG := Lib.hid hG; have HC := Lib.hid hC
  clear hG hC
  go_enter Tryz.func16, Tryz.ntmps16
  go_wp2_with fail
  have hS : SlAt encE 3 (w.alloc (.cells #[.int .i64 0, .int .i64 1, .int .i64 1, .int .i64 1, .int .i64 1, .int .i64 2, .int .i64 3, .int .i64 1, .int .i64 2] 35)) (some ⟨w.heap.size, 0, none⟩) w.heap.size 0 al9.es := by
    have h := World.ownsRow_lit (e := 35) (size := 3) (base := w.heap.size) w #[.int .i64 0, .int .i64 1, .int .i64 1, .int .i64 1, .int .i64 1, .int .i64 2, .int .i64 3, .int .i64 1, .int .i64 2] 3 (Nat.le_refl _) (by unfold maxLen; omega) rfl
    obtain ⟨a, c, b, hv, _, _, hs, _⟩ := slAt_own (xs := al9.es) lenE h
    simp only [Value.slice.injEq] at hv
    obtain ⟨rfl, _, _⟩ := hv
    have := hs.ad (by decide)
    simp at this
    subst this
    exact hs
  have hB0 := ((Below.refl w.heap.size w).alloc (Nat.le_refl _) (.cells #[.int .i64 0, .int .i64 1, .int .i64 1, .int .i64 1, .int .i64 1, .int .i64 2, .int .i64 3, .int .i64 1, .int .i64 2] 35)).alloc (by simp) (.cells #[.int .i64 4, .int .i64 2, .int .i64 0, .slice (some ⟨w.heap.size, 0, none⟩) 3 3] 24)
  have hx0 := heap_alloc_at (w.alloc (.cells #[.int .i64 0, .int .i64 1, .int .i64 1, .int .i64 1, .int .i64 1, .int .i64 2, .int .i64 3, .int .i64 1, .int .i64 2] 35)) (.cells #[.int .i64 4, .int .i64 2, .int .i64 0, .slice (some ⟨w.heap.size, 0, none⟩) 3 3] 24) (w.heap.size + 1) (by simp)
  have hS1 := hS.alloc (.cells #[.int .i64 4, .int .i64 2, .int .i64 0, .slice (some ⟨w.heap.size, 0, none⟩) 3 3] 24)
  refine (strClasses_any (s := al9) (n := 4) (c := 3) al9_right rfl (HG.out.below hB0) hS1).mono ?_
  unfold StrClasses
  rintro e w1 ⟨inn, ca, cc, hbig, rfl, hown, hB1⟩
  rw [al9_cls hbig] at hown
  obtain ⟨_, _, cb, hv, _, _, hcs, _⟩ := slAt_own (xs := [0, 1, 2, 1]) lenI hown
  simp only [Value.slice.injEq] at hv
  obtain ⟨rfl, _, rfl⟩ := hv
  obtain rfl := hcs.ad (by decide)
  have hx1 := (hB1.block (w.heap.size + 1) (by simp)).trans hx0
  have hB1' := hB0.trans (hB1.mono (by simp; omega))
  have hS2 := hS1.below hB1 (Nat.le_refl _)
  obtain ⟨V, hV, hBV, vs, hI⟩ := rows9 (w := w1)
  have hbv := hB1'.trans (hBV.mono hB1'.size)
  have HRP := Lib.hid (replay_any (s := al9) (n := 4) (c := 3) (T := run9) (tc := 3) al9_right rfl (HG.out.below hbv) (HC.out.below hbv) (hS2.below hBV (Nat.le_refl _)) (by decide) hI)
  rw [hV] at HRP
  have HBV := Lib.hid hbv; have HCS := Lib.hid (hcs.below hBV (Nat.le_refl _))
  rw [hV] at HBV HCS
  obtain ⟨x0, x1, x2, x3, x4⟩ := sys9 hx1
  clear hB0 hx0 hS hS1 hx1 hB1 hB1' hS2 hown hcs hbig hI hBV hbv hV
  go_wp2_with fail
  refine HRP.out.mono ?_
  unfold RepPost
  rintro e w2 ⟨hor, hB2⟩
  rcases hor with ⟨inn2, a2, c2, hbig2, rfl, hown2⟩ | ⟨v, _, _, hbad⟩
  · rw [al9_norm] at hbig2
    rw [al9_cls hbig2] at hown2
    obtain ⟨_, _, db, hv, _, _, hds, _⟩ := slAt_own (xs := [0, 1, 2, 1]) lenI hown2
    simp only [Value.slice.injEq] at hv
    obtain ⟨rfl, _, rfl⟩ := hv
    obtain rfl := hds.ad (by decide)
    have hcs := HCS.out.below hB2 (Nat.le_refl _)
    have l3 := hcs.ci (i := 3) (x := 1) rfl
    have m2 := hds.ci (i := 2) (x := 2) rfl
    have ll := hcs.lt (by decide)
    have ml := hds.lt (by decide)
    simp only [Nat.zero_add] at l3 m2
    have HB2 := Lib.hid (HBV.out.trans (hB2.mono HBV.out.size))
    clear hcs hds hown2 hbig2 hB2 x0 x1 x2 x3 x4 HRP HBV HCS
    go_wp2_with fail
    go_ret
    exact ⟨rfl, HB2.out⟩
  · rw [al9_norm] at hbad
    exact absurd hbad good9

theorem small9_any (s0 st lb : Int) (a : Option Addr) (m c : Nat) (w : World) :
    Calls Tryz.prog 18 #[.agg #[.int .i64 st, .int .i64 lb, .int .i64 s0, .slice a m c]] w fun e w' => e = .returned (.bool (decide (st ≤ 80) && decide (m ≤ 600))) ∧ Below w.heap.size w w' := by
  have hb := (Below.refl w.heap.size w).alloc (Nat.le_refl _) (.cells #[.int .i64 st, .int .i64 lb, .int .i64 s0, .slice a m c] 24)
  by_cases h1 : st ≤ 80
  · have e1 : decide (st ≤ 80) = true := by simp [h1]
    have HE1 := Lib.hid e1
    by_cases h2 : m ≤ 600
    · have e2 : decide (m ≤ 600) = true := by simp [h2]
      have HE2 := Lib.hid e2
      have h2' : (m : Int) ≤ 600 := by omega
      clear e1 e2
      rw [HE1.out, HE2.out]
      go_enter Tryz.func18, Tryz.ntmps18
      go_wp2
      go_ret
      exact ⟨rfl, hb⟩
    · have e2 : decide (m ≤ 600) = false := by simp [h2]
      have HE2 := Lib.hid e2
      have h2' : ¬ (m : Int) ≤ 600 := by omega
      clear e1 e2
      rw [HE1.out, HE2.out]
      go_enter Tryz.func18, Tryz.ntmps18
      go_wp2
      go_ret
      exact ⟨rfl, hb⟩
  · have e1 : decide (st ≤ 80) = false := by simp [h1]
    rw [e1, Bool.false_and]
    clear e1
    go_enter Tryz.func18, Tryz.ntmps18
    go_wp2
    go_ret
    exact ⟨rfl, hb⟩
end Go.Proofs.YtfakdgljilmpkaaGreatDoor

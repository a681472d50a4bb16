/-
  strong.Classes.
  strong.smaller; strong.play: all.
  refine.Partition: Block; strong.play: all.
-/
import Derived.Test.YtfakdgljilmpkaaGreatDoorStrK
import Derived.Test.YtfakdgljilmpkaaGreatDoorGParI
import Derived.Test.YtfakdgljilmpkaaGreatDoorGParA
namespace Go.Proofs.YtfakdgljilmpkaaGreatDoor
open Go.RowKit Pl

theorem big_norm {s : Lts} {n : Nat} {C : Nat → Int} (h : Big s.norm n C) : Big s n C := h.steps (fun _ _ _ _ _ => mem_nf stoE _ s.es)

/-- What Classes answers of a right system. -/
def StrClasses (s : Lts) (n : Nat) (w : World) (e : Ending) (w' : World) : Prop :=
  ∃ (inn : Nat → Nat) (a : Option Addr) (c : Nat), Big s n (fun p => (inn p : Int)) ∧ e = .returned (.tuple #[.slice a n c, .nilIface]) ∧ w'.ownsRow w.heap.size 3 1 (.slice a n c) n ((canon (flN n inn)).flatMap encI) ∧ Below w.heap.size w w'

set_option maxRecDepth 100000 in
set_option maxHeartbeats 2000000 in
theorem strClasses_any {p : Addr} {s : Lts} {n : Nat} (h : s.Right) (hn : s.st = (n : Int)) {a : Option Addr} {b off c : Nat} {w : World} (hG : GErr 0 p w) (hS : SlAt encE 3 w a b off s.es) :
    Calls Tryz.prog 19 #[.agg #[.int .i64 s.st, .int .i64 s.lb, .int .i64 s.s0, .slice a s.es.length c]] w (StrClasses s n w) := by
  have hB0 := (Below.refl w.heap.size w).alloc (Nat.le_refl _) (Obj.cells #[.int .i64 s.st, .int .i64 s.lb, .int .i64 s.s0, .slice a s.es.length c] 24)
  have HB0 := Lib.hid hB0
  rcases Nat.eq_zero_or_pos n with rfl | hn0
  · have HN := Lib.hid (refineZero_any (c := c) h hn (hG.below hB0) (hS.below hB0 (Nat.le_refl _)))
    clear hB0 hS hG h hn
    go_enter Tryz.func19, Tryz.ntmps19
    go_wp2_with fail
    refine HN.out.mono ?_
    unfold runZ
    rintro e w1 ⟨rfl, hB1⟩
    have HB1 := Lib.hid ((HB0.out.trans (hB1.mono (by simp))).alloc (by have := hB1.size; simp at this; omega) (.cells #[.slice none 0 0, .slice none 0 0, .slice none 0 0] 38))
    clear hB1 HN HB0
    go_wp2_with fail
    go_ret2
    exact ⟨fun _ => 0, none, 0, ⟨fun p q hp => by omega, fun R _ p q hp => by omega⟩, rfl, World.ownsRow_nil _ _ _ _, HB1.out⟩
  · have HN := Lib.hid (refineYes_any (c := c) h hn hn0 (hG.below hB0) (hS.below hB0 (Nat.le_refl _)))
    clear hB0 hS hG h hn
    go_enter Tryz.func19, Tryz.ntmps19
    go_wp2_with fail
    refine HN.out.mono ?_
    unfold RefPost
    rintro e w1 ⟨inn, ga, cg, cc, ta, tn, tc, ba, bb, bc, hbig, _, rfl, hown, _, hB1⟩
    have hz : w.heap.size ≤ w1.heap.size := by have := hB1.size; simp at this; omega
    have HB1 := Lib.hid ((HB0.out.trans (hB1.mono (by simp))).alloc hz (.cells #[.slice (some ⟨cg, 0, none⟩) n cc, .slice ta tn tc, .slice ba n bc] 38))
    have HO := Lib.hid ((own_mono hown (show w.heap.size ≤ _ by simp)).alloc (.cells #[.slice (some ⟨cg, 0, none⟩) n cc, .slice ta tn tc, .slice ba n bc] 38))
    have HBIG := Lib.hid (big_norm hbig)
    clear hB1 hown hbig HN HB0
    go_wp2_with fail
    go_ret2
    exact ⟨inn, _, cc, HBIG.out, rfl, HO.out, HB1.out⟩

set_option maxRecDepth 100000 in
set_option maxHeartbeats 2000000 in
theorem strClassesNo_any {p : Addr} {s : Lts} (h : ¬ s.Right) {a : Option Addr} {b off c : Nat} {w : World} (hG : GErr 0 p w) (hT : ErrType w) (hS : SlAt encE 3 w a b off s.es) :
    Calls Tryz.prog 19 #[.agg #[.int .i64 s.st, .int .i64 s.lb, .int .i64 s.s0, .slice a s.es.length c]] w fun e w' => ∃ v, e = .returned (.tuple #[.slice none 0 0, v]) ∧ FaultS w' p v ∧ Below w.heap.size w w' := by
  have hB0 := (Below.refl w.heap.size w).alloc (Nat.le_refl _) (Obj.cells #[.int .i64 s.st, .int .i64 s.lb, .int .i64 s.s0, .slice a s.es.length c] 24)
  have HB0 := Lib.hid hB0
  have HN := Lib.hid (refineNo_any (c := c) h (hG.below hB0) (hT.below hB0) (hS.below hB0 (Nat.le_refl _)))
  clear hB0 hS hG h hT
  go_enter Tryz.func19, Tryz.ntmps19
  go_wp2_with fail
  refine HN.out.mono ?_
  unfold runZ
  rintro e w1 ⟨v, rfl, hf, hB1⟩
  have hz : w.heap.size ≤ w1.heap.size := by have := hB1.size; simp at this; omega
  have HB1 := Lib.hid ((HB0.out.trans (hB1.mono (by simp))).alloc hz (.cells #[.slice none 0 0, .slice none 0 0, .slice none 0 0] 38))
  have HF := Lib.hid (hf.below ((Below.refl w1.heap.size w1).alloc (Nat.le_refl _) (.cells #[.slice none 0 0, .slice none 0 0, .slice none 0 0] 38)))
  clear hB1 hf HN HB0
  go_wp2_with fail
  go_ret2
  exact ⟨v, rfl, HF.out, HB1.out⟩
end Go.Proofs.YtfakdgljilmpkaaGreatDoor

namespace Go.Proofs.YtfakdgljilmpkaaGreatDoor
open Go.RowKit Pl

theorem smaller_any (b h : Nat) (hb : b ≤ 9223372036854775807) (hh : h ≤ 1000000) (w : World) :
    Calls Tryz.prog 116 #[.int .i64 b, .int .i64 h] w fun e w' => e = .returned (.bool (decide (0 < b ∧ b ≠ h ∧ b + b ≤ h))) ∧ w' = w := by
  have hw : wrap64 ((h : Int) - b) = (h : Int) - b := by unfold wrap64; omega
  by_cases h1 : b = 0
  · subst h1
    rw [show decide (0 < 0 ∧ 0 ≠ h ∧ 0 + 0 ≤ h) = false by simp]
    go_enter Tryz.func116, Tryz.ntmps116
    go_wp2
    go_ret
    exact ⟨rfl, rfl⟩
  · have c1 : ¬ (b : Int) = 0 := by omega
    by_cases h2 : b = h
    · subst h2
      rw [show decide (0 < b ∧ b ≠ b ∧ b + b ≤ b) = false by simp]
      go_enter Tryz.func116, Tryz.ntmps116
      go_wp2
      go_ret
      exact ⟨rfl, rfl⟩
    · have c2 : ¬ (b : Int) = h := by omega
      by_cases h3 : (b : Int) < (h : Int) - b
      · rw [show decide (0 < b ∧ b ≠ h ∧ b + b ≤ h) = true by simp; omega]
        go_enter Tryz.func116, Tryz.ntmps116
        go_wp2
        go_ret
        exact ⟨rfl, rfl⟩
      · by_cases h4 : (b : Int) = (h : Int) - b
        · rw [show decide (0 < b ∧ b ≠ h ∧ b + b ≤ h) = true by simp; omega]
          obtain ⟨d, rfl⟩ : ∃ d, h = b + d := ⟨h - b, by omega⟩
          have hd : b = d := by omega
          have c3 : ((b + d : Nat) : Int) - (b : Int) = (d : Int) := by omega
          subst hd
          have HC := Lib.hid c3
          clear h4 h3 hw c3
          obtain ⟨t, ht⟩ : ∃ t : Int, t = ((b + b : Nat) : Int) := ⟨_, rfl⟩
          rw [← ht] at HC c2 ⊢
          have ht2 : t ≤ 1000000 := by omega
          have c5 : t - (b : Int) = (b : Int) := HC.out
          clear ht
          go_enter Tryz.func116, Tryz.ntmps116
          go_wp2
          go_ret
          exact ⟨rfl, rfl⟩
        · rw [show decide (0 < b ∧ b ≠ h ∧ b + b ≤ h) = false by simp; omega]
          go_enter Tryz.func116, Tryz.ntmps116
          go_wp2
          go_ret
          exact ⟨rfl, rfl⟩
end Go.Proofs.YtfakdgljilmpkaaGreatDoor

namespace Go.Proofs.YtfakdgljilmpkaaGreatDoor
open Go.RowKit Pl

section
variable {w0 w : World} {s : Lts} {K : PK} {S : SK} {n : Nat} {el pl inn : Nat → Nat} {bl : List B3} {hp ga : Nat → Nat} {sz : List Int} {tl : List Value} {rest : List Rw}

set_option maxRecDepth 100000 in
theorem parBlock_any (h : PW w0 w K n el pl inn bl rest) {i : Nat} (hi : i < n) : Calls Tryz.prog 115 #[.pointer (some ⟨K.pb, 0, none⟩), .int .i64 i] w fun e w' => e = .returned (.tuple #[.int .i64 (inn i), .nilIface]) ∧ Below w.heap.size w w' := by
  obtain ⟨c0, c1, c2, c3⟩ := h.rws.pCells
  have lts := h.rws.pLts
  have d0 := h.rws.cell (i := 3) rfl (flN_at inn hi)
  have hiI : (i : Int) < (n : Int) := by omega
  have HS := Lib.hid (parSize_any h.rws)
  have HLT := Lib.hid (h.rws.lt (i := 3) rfl).2
  clear h
  go_enter Tryz.func115, Tryz.ntmps115
  go_wp2_with fail
  refine HS.out.mono ?_
  rintro e w1 ⟨rfl, rfl⟩
  go_wp2_with fail
  refine (asked_ok w K.pb i n hi).mono ?_
  rintro e w1 ⟨rfl, rfl⟩
  have hlt := HLT.out
  go_wp2_with fail
  go_ret2
  exact ⟨rfl, Below.refl _ _⟩

theorem rangeI_get {n k : Nat} (h : k < n) : ((List.range n).map Int.ofNat)[k]? = some (k : Int) := by simp [h]
set_option maxRecDepth 100000 in
theorem all_gen {w : World} {xb n : Nat} {ha : Option Addr} (c2 : w.cell? ⟨xb, 2, none⟩ = some (.slice ha n n)) (hn1 : n ≤ 1000) {L : List Int} (hL : L.length ≤ 9223372036854775807) {ia : Option Addr} {ib io ic : Nat} (hS : SlAt encI 1 w ia ib io L) :
    Calls Tryz.prog 80 #[.pointer (some ⟨xb, 0, none⟩), .slice ia L.length ic] w fun e w' => e = .returned (.bool (decide (L = (List.range n).map Int.ofNat))) ∧ Below w.heap.size w w' := by
  have xl : xb < w.heap.size := World.block_lt_of_cell? _ _ c2
  have HS := Lib.hid hS
  obtain ⟨m, hm⟩ : ∃ m, m = L.length := ⟨_, rfl⟩
  rw [← hm] at hL ⊢
  have HM := Lib.hid hm
  obtain ⟨r, hr⟩ : ∃ r, r = decide (L = (List.range n).map Int.ofNat) := ⟨_, rfl⟩
  rw [← hr]
  have HRR := Lib.hid hr
  clear hS hm hr
  go_enter Tryz.func80, Tryz.ntmps80
  go_wp2_with fail
  go_loopw [5, 6, 9] (fun _ _ v9 wr => ∃ k : Nat, v9 = .int .i64 k ∧ k ≤ m ∧ Below w.heap.size w wr ∧ ∀ j, j < k → L[j]? = some (j : Int)) (fun _ _ v9 _ => m - (intOf v9).toNat)
  case atStart => exact ⟨0, rfl, Nat.zero_le _, Below.refl _ _, fun j hj => by omega⟩
  case round =>
    obtain ⟨k, rfl, hk, hbe, hall⟩ := hrel
    have HB := Lib.hid hbe; have HA := Lib.hid hall
    have y2 : wr.cell? ⟨xb, 2, none⟩ = some (.slice ha n n) := by rw [hbe.cell (p := ⟨xb, 2, none⟩) xl]; exact c2
    have yl : xb < wr.heap.size := Nat.lt_of_lt_of_le xl hbe.size
    clear hall
    by_cases hkm : k < m
    · have hkI : (k : Int) < (m : Int) := by omega
      obtain ⟨z, hz⟩ := getElem?_of_lt (xs := L) (i := k) (by rw [← HM.out]; exact hkm)
      have hs := HS.out.below hbe (Nat.le_refl _)
      obtain rfl := hs.ad (by rw [← HM.out]; omega)
      have d0 := hs.ci hz
      have dl := hs.lt (by rw [← HM.out]; omega)
      have HZ := Lib.hid hz
      clear hs hz hbe c2
      by_cases hzk : (k : Int) = z
      · have HK := Lib.hid hzk
        subst hzk
        go_wp2_with fail
        go_roundw
        case rel => exact ⟨k + 1, by go_num, by omega, HB.out, fun j hj => by
          rcases Nat.lt_or_ge j k with h1 | h1
          · exact HA.out j h1
          · have : j = k := by omega
            subst this; exact HZ.out⟩
        case measure => simp [intOf]; omega
      · have hd : decide (L = (List.range n).map Int.ofNat) = false := by
          rw [decide_eq_false_iff_not]
          intro e
          have h1 := HZ.out
          rw [e] at h1
          have h2 := (List.getElem?_eq_some_iff.1 h1).1
          rw [List.length_map, List.length_range] at h2
          rw [rangeI_get h2] at h1
          exact hzk (Option.some.inj h1)
        rw [← HRR.out] at hd
        have HD := Lib.hid hd
        clear hd
        go_wp2_with fail
        go_ret
        exact ⟨by rw [HD.out]; rfl, HB.out⟩
    · have hkm2 : k = m := by omega
      subst hkm2
      have hd : decide (L = (List.range n).map Int.ofNat) = decide (k = n) := by
        rw [decide_eq_decide]
        constructor
        · intro e
          rw [HM.out, e, List.length_map, List.length_range]
        · intro e
          apply List.ext_getElem?
          intro j
          rcases Nat.lt_or_ge j k with h1 | h1
          · rw [HA.out j h1, rangeI_get (by omega)]
          · rw [List.getElem?_eq_none (by rw [← HM.out]; exact h1), List.getElem?_eq_none (by rw [List.length_map, List.length_range]; omega)]
      rw [← HRR.out] at hd
      have HD := Lib.hid hd
      clear hd hbe c2
      by_cases hkn : k = n
      · subst hkn
        go_wp2_with fail
        go_ret
        exact ⟨by rw [HD.out]; simp <;> rfl, HB.out⟩
      · have hki : ¬ (k : Int) = (n : Int) := by omega
        go_wp2_with fail
        go_ret
        exact ⟨by show Ending.returned (.bool ((k : Int) == (n : Int))) = _; rw [HD.out, show ((k : Int) == (n : Int)) = false by simpa using hki, show decide (k = n) = false by simpa using hkn], HB.out⟩
theorem all_any (h : SW w0 w s K S n el pl inn bl hp ga sz tl rest) {L : List Int} (hL : L.length ≤ 9223372036854775807) {ia : Option Addr} {ib io ic : Nat} (hS : SlAt encI 1 w ia ib io L) :
    Calls Tryz.prog 80 #[.pointer (some ⟨S.xb, 0, none⟩), .slice ia L.length ic] w fun e w' => e = .returned (.bool (decide (L = (List.range n).map Int.ofNat))) ∧ Below w.heap.size w w' :=
  all_gen h.run.sCells.2.2.1 h.par.n1 hL hS
end
end Go.Proofs.YtfakdgljilmpkaaGreatDoor

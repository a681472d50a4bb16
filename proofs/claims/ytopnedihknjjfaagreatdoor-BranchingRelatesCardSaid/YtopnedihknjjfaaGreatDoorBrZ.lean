/-
  law12.silent: what silent steps lead to from a state.
-/
import Derived.Test.YtopnedihknjjfaaGreatDoorGBrQ
import Derived.Test.YtopnedihknjjfaaGreatDoorGKeyS
import Derived.Test.YtopnedihknjjfaaGreatDoorGGraphC
import Derived.Test.YtopnedihknjjfaaGreatDoorGOrdP
import Derived.Deep.QuietTactic
import Derived.BigQuiet
namespace Go.Proofs.YtopnedihknjjfaaGreatDoor
open Go.RowKit Pl

namespace Pl
theorem mem_withLB {M : List S} {l t : Int} : t ∈ withL l M ↔ (l, t) ∈ M := by
  unfold withL
  simp only [List.mem_map, List.mem_filter, beq_iff_eq]
  constructor
  · rintro ⟨y, ⟨hy, rfl⟩, rfl⟩; exact hy
  · intro h; exact ⟨_, ⟨h, rfl⟩, rfl⟩
theorem withL_lenB (M : List S) (l : Int) : (withL l M).length ≤ M.length := by
  unfold withL; rw [List.length_map]; exact List.length_filter_le _ _
/-- States near one: the first i of them are done. -/
structure NearI (s : Lts) (p : Nat) (L : List Int) (i : Nat) : Prop where
  nd : L.Nodup
  rng : ∀ x ∈ L, ∃ q : Nat, x = (q : Int) ∧ (q : Int) < s.st
  p0 : (p : Int) ∈ L
  done : ∀ k x, k < i → L[k]? = some x → ∀ y ∈ withL 0 (s.outs x), y ∈ L
theorem NearI.start {s : Lts} {p : Nat} (h : (p : Int) < s.st) : NearI s p [(p : Int)] 0 :=
  ⟨by simp, fun x hx => by simp at hx; subst hx; exact ⟨p, rfl, h⟩, by simp, fun k x hk => by omega⟩
theorem NearI.len {s : Lts} {p i : Nat} {L : List Int} (h : NearI s p L i) {n : Nat} (hn : s.st = (n : Int)) : L.length ≤ n := by
  have h1 := nodup_subI L ((List.range n).map Int.ofNat) h.nd (fun x hx => by
    obtain ⟨q, rfl, h2⟩ := h.rng x hx
    exact List.mem_map.2 ⟨q, List.mem_range.2 (by omega), rfl⟩)
  simpa using h1
theorem NearI.push {s : Lts} (hr : s.Right) {p i : Nat} {L : List Int} (h : NearI s p L i) (hi : i ≤ L.length) {x y : Int} (hy : y ∈ withL 0 (s.outs x)) (hn : y ∉ L) : NearI s p (L ++ [y]) i where
  nd := by rw [List.nodup_append]; exact ⟨h.nd, by simp, by intro a ha b hb; simp at hb; subst hb; intro e; subst e; exact hn ha⟩
  rng z hz := by
    rcases List.mem_append.1 hz with h1 | h1
    · exact h.rng z h1
    · simp at h1; subst h1
      have := offB_false.1 (hr.edges _ (mem_outs.1 (mem_withLB.1 hy)))
      simp only at this
      exact ⟨z.toNat, by omega, by omega⟩
  p0 := List.mem_append_left _ h.p0
  done k z hk hz w hw := by
    by_cases hl : k < L.length
    · rw [List.getElem?_append_left hl] at hz
      exact List.mem_append_left _ (h.done k z hk hz w hw)
    · have : k = L.length := by
        have := (List.getElem?_eq_some_iff.1 hz).1
        simp at this; omega
      subst this
      omega
theorem NearI.next {s : Lts} {p i : Nat} {L : List Int} (h : NearI s p L i) {x : Int} (hx : L[i]? = some x) (ha : ∀ y ∈ withL 0 (s.outs x), y ∈ L) : NearI s p L (i + 1) :=
  ⟨h.nd, h.rng, h.p0, fun k z hk hz => by
    by_cases e : k = i
    · subst e; rw [hx] at hz; cases hz; exact ha
    · exact h.done k z (by omega) hz⟩
theorem NearI.all {s : Lts} {p : Nat} {L : List Int} (h : NearI s p L L.length) {X : Nat → Prop} {q : Nat} (hv : Via s X p q) : (q : Int) ∈ L := by
  induction hv with
  | refl _ => exact h.p0
  | tail _ h1 _ ih =>
    obtain ⟨k, hk⟩ := List.getElem?_of_mem ih
    exact h.done k _ (List.getElem?_eq_some_iff.1 hk).1 hk _ (mem_withLB.2 (mem_outs.2 h1))
end Pl

/-- A row of ints, and what it reads. -/
def RIz (v : Value) (m : Nat) (xs : List Int) : Rw := ⟨3, 1, v, m, xs.flatMap encI⟩
theorem rizGrow {w0 w w1 w2 : World} {R : List Rw} {v : Value} {m : Nat} {xs : List Int} (h : Rws w0 w R) (hB2 : Below w.heap.size w w2) {i : Nat} (hi : R[i]? = some (RIz v m xs)) {y : Int} {g c' : Nat} (ho : w1.ownsRow w0.heap.size 3 1 (.slice (some ⟨g, 0, none⟩) (m + 1) c') (m + 1) (xs.flatMap encI ++ [.int .i64 y]))
    (hg : w2.grownBy w1 v.ownBlock) (hh : v.ownBlock = some g ∨ w.heap.size ≤ g) : Rws w0 w1 (R.set i (RIz (.slice (some ⟨g, 0, none⟩) (m + 1) c') (m + 1) (xs ++ [y]))) := by
  have hs := h.grown hB2 i hi ho hg (fun g' hg' => by simp only [Value.ownBlock, Option.some.injEq] at hg'; subst hg'; exact hh)
  have e : (xs ++ [y]).flatMap encI = xs.flatMap encI ++ [.int .i64 y] := by rw [List.flatMap_append]; rfl
  unfold RIz
  rw [e]
  exact hs

theorem rizSlA {w0 w : World} {R : List Rw} {a : Option Addr} {m c i : Nat} {L : List Int} (h : Rws w0 w R) (hi : R[i]? = some (RIz (.slice a m c) m L)) (hm : m = L.length) : ∃ b, SlAt encI 1 w a b 0 L := by
  subst hm
  obtain ⟨a', c', b, hv, _, _, hs, _⟩ := slAt_own lenI (h.get hi)
  have hv : Value.slice a L.length c = .slice a' L.length c' := hv
  simp only [Value.slice.injEq] at hv
  obtain ⟨rfl, _, rfl⟩ := hv
  exact ⟨b, hs⟩
theorem rizSl {w0 w : World} {R : List Rw} {m c g i : Nat} {L : List Int} (h : Rws w0 w R) (hi : R[i]? = some (RIz (.slice (some ⟨g, 0, none⟩) m c) m L)) (hm : m = L.length) : SlAt encI 1 w (some ⟨g, 0, none⟩) g 0 L where
  ad _ := rfl
  lt _ := (h.lt hi).2
  cell := by
    obtain ⟨b, hs⟩ := rizSlA h hi hm
    intro k x hx
    have hp : 0 < L.length := by have := (List.getElem?_eq_some_iff.1 hx).1; omega
    have e := hs.ad hp
    simp only [Option.some.injEq, Addr.mk.injEq, and_true] at e
    rw [e]
    exact hs.cell k x hx

set_option maxRecDepth 100000 in
set_option maxHeartbeats 8000000 in
theorem silent_any {w : World} {gb : Nat} {s : Lts} (hg : GraphAt w gb s) (hr : s.Right) {n : Nat} (hn : s.st = (n : Int)) {p : Nat} (hp : p < n) :
    Calls Tryz.prog 19 #[.pointer (some ⟨gb, 0, none⟩), .int .i64 (p : Int)] w fun e w' => ∃ (L : List Int) (g c m : Nat), e = .returned (.slice (some ⟨g, 0, none⟩) m c) ∧ m = L.length ∧ NearI s p L L.length ∧ SlAt encI 1 w' (some ⟨g, 0, none⟩) g 0 L ∧ Below w.heap.size w w' := by
  have hn1 : n ≤ 1000 := by have := hr.st0; omega
  have HG := Lib.hid hg; have HR := Lib.hid hr; have HN := Lib.hid hn
  have HST := Lib.hid (NearI.start (s := s) (p := p) (by omega))
  clear hg hr hn
  go_enter Tryz.func19, Tryz.ntmps19
  go_wp2_with fail
  have hr0 : Rws w (w.alloc (.cells #[.int .i64 (p : Int)] 3)) [RIz (.slice (some ⟨w.heap.size, 0, none⟩) 1 1) 1 [(p : Int)]] := (Rws.nil (Below.refl w.heap.size w)).addLit #[.int .i64 (p : Int)] 3 (k := 1) (n := 1) (by decide) rfl
  have HR0 := Lib.hid hr0
  clear hr0
  go_loopw [5, 6, 8, 9, 11] (fun v5 v6 _ _ _ wr => ∃ (i m g c : Nat) (L : List Int), v6 = .int .i64 i ∧ v5 = .slice (some ⟨g, 0, none⟩) m c ∧ m = L.length ∧ i ≤ m ∧ NearI s p L i ∧ Rws w wr [RIz (.slice (some ⟨g, 0, none⟩) m c) m L]) (fun _ v6 _ _ _ _ => n - (intOf v6).toNat)
  case atStart => exact ⟨0, 1, w.heap.size, 1, [(p : Int)], rfl, rfl, rfl, by omega, HST.out, HR0.out⟩
  case round =>
    obtain ⟨i, m, g, c, L, rfl, rfl, hm, hi, hnr, hrw⟩ := hrel
    have HNR := Lib.hid hnr; have HRW := Lib.hid hrw; have HM := Lib.hid hm
    have hmn : m ≤ n := by have := hnr.len HN.out; omega
    have hws := hrw.bel.size
    clear hnr hrw hm HR0 HST
    by_cases him : i < m
    · obtain ⟨x, hx⟩ := getElem?_of_lt (xs := L) (i := i) (by have := HM.out; omega)
      have hss := rizSl HRW.out (i := 0) rfl HM.out
      have d0 := hss.ci hx
      simp only [Nat.zero_add] at d0
      have dl := hss.lt (by have := HM.out; omega)
      have HBY := Lib.hid (getBy_any (HG.out.below HRW.out.bel) x 0)
      have hiI : (i : Int) < (m : Int) := by omega
      have HX := Lib.hid hx
      clear hx hss
      go_wp2_with fail
      refine HBY.out.mono ?_
      rintro e w2 ⟨v, rfl, hown, hB2⟩
      obtain ⟨M, hM⟩ : ∃ M, M = withL 0 (s.outs x) := ⟨_, rfl⟩
      rw [← hM] at hown
      obtain ⟨va, vc, vb, rfl, hz1, hz2, hz3, hz4⟩ := slAt_own lenI hown
      have hr1 := HRW.out.add hB2 hown
      obtain ⟨ml, hml⟩ : ∃ ml, ml = M.length := ⟨_, rfl⟩
      have hr2 : Rws w w2 [RIz (.slice va ml vc) ml M, RIz (.slice (some ⟨g, 0, none⟩) m c) m L] := by rw [hml]; exact hr1
      have hmlb : ml ≤ 10000 := by rw [hml, hM]; exact Nat.le_trans (withL_lenB _ _) (outs_len HR.out x)
      have HR2 := Lib.hid hr2; have HML := Lib.hid hml; have HMM := Lib.hid hM
      rw [← hml]
      clear hown hB2 hM hz1 hz2 hz3 hz4 hr1 hml hr2 HRW HBY d0 dl
      go_wp2_with fail
      go_loopw [5, 8, 9, 11, 27] (fun v5 _ _ _ v27 wy => ∃ (j m2 g2 c2 : Nat) (L2 : List Int), v27 = .int .i64 j ∧ v5 = .slice (some ⟨g2, 0, none⟩) m2 c2 ∧ m2 = L2.length ∧ j ≤ ml ∧ NearI s p L2 i ∧ L2[i]? = some x ∧ (∀ y ∈ M.take j, y ∈ L2) ∧ Rws w wy [RIz (.slice va ml vc) ml M, RIz (.slice (some ⟨g2, 0, none⟩) m2 c2) m2 L2]) (fun _ _ _ _ v27 _ => ml - (intOf v27).toNat)
      case atStart => exact ⟨0, m, g, c, L, rfl, rfl, HM.out, Nat.zero_le _, HNR.out, HX.out, by simp, HR2.out⟩
      case round =>
        obtain ⟨j, m2, g2, c2, L2, rfl, rfl, hm2, hj, hnr, hx2, hin, hrw⟩ := hrel
        have HNR2 := Lib.hid hnr; have HRW := Lib.hid hrw; have HM2 := Lib.hid hm2; have HX2 := Lib.hid hx2; have HIN := Lib.hid hin
        have hmn2 : m2 ≤ n := by have := hnr.len HN.out; omega
        have him2 : i < m2 := by rw [hm2]; exact (List.getElem?_eq_some_iff.1 hx2).1
        have hwr := hrw.bel.size
        clear hnr hrw hm2 hx2 hin HR2
        by_cases hjm : j < ml
        · obtain ⟨y, hy⟩ := getElem?_of_lt (xs := M) (i := j) (by have := HML.out; omega)
          obtain ⟨vb, hsv⟩ := rizSlA HRW.out (i := 0) rfl HML.out
          obtain rfl := hsv.ad (by have := HML.out; omega)
          have d0 := hsv.ci hy
          simp only [Nat.zero_add] at d0
          have dl := hsv.lt (by have := HML.out; omega)
          have HY := Lib.hid hy
          have hjI : (j : Int) < (ml : Int) := by omega
          have HSS := Lib.hid (rizSl HRW.out (i := 1) rfl HM2.out)
          clear hy hsv
          go_wp2_with fail
          clear d0 dl
          go_loop [9, 11, 33] (fun v9 _ v33 => ∃ k : Nat, v33 = .int .i64 k ∧ k ≤ m2 ∧ v9 = .bool (decide (y ∈ L2.take k))) (fun _ _ v33 => m2 - (intOf v33).toNat)
          case atStart => exact ⟨0, rfl, Nat.zero_le _, by simp⟩
          case round =>
            obtain ⟨k, rfl, hk, rfl⟩ := hrel
            by_cases hkm : k < m2
            · obtain ⟨z, hz⟩ := getElem?_of_lt (xs := L2) (i := k) (by have := HM2.out; omega)
              have d0 := HSS.out.ci hz
              simp only [Nat.zero_add] at d0
              have dl := HSS.out.lt (by have := HM2.out; omega)
              have HSN : RowKit.Hid (decide (y ∈ L2.take (k + 1)) = (decide (y ∈ L2.take k) || decide (z = y))) := Lib.hid (by
                rw [take_snoc hz, Bool.eq_iff_iff]
                simp only [decide_eq_true_eq, Bool.or_eq_true, List.mem_append, List.mem_singleton]
                exact ⟨fun h => h.imp_right Eq.symm, fun h => h.imp_right Eq.symm⟩)
              obtain ⟨bl, hbl⟩ : ∃ bl, bl = decide (y ∈ L2.take k) := ⟨_, rfl⟩
              rw [← hbl] at HSN ⊢
              have hkI : (k : Int) < (m2 : Int) := by omega
              clear hz hbl
              cases bl
              · by_cases hzy : z = y
                · subst hzy
                  go_wp2_with fail
                  go_round
                  case rel => exact ⟨k + 1, by go_num, by omega, by rw [HSN.out]; simp⟩
                  case measure => simp [intOf]; omega
                · have hb : (z == y) = false := by simp [hzy]
                  go_wp2_with fail
                  go_round
                  case rel => exact ⟨k + 1, by go_num, by omega, by rw [HSN.out]; simp [hzy]⟩
                  case measure => simp [intOf]; omega
              · go_wp2_with fail
                go_round
                case rel => exact ⟨k + 1, by go_num, by omega, by rw [HSN.out]; simp⟩
                case measure => simp [intOf]; omega
            · obtain rfl : m2 = k := by omega
              have hall : L2.take m2 = L2 := by rw [HM2.out, List.take_length]
              rw [hall]
              clear hall
              by_cases hyl : y ∈ L2
              · have hd : decide (y ∈ L2) = true := by simp [hyl]
                rw [hd]
                have HIN2 : RowKit.Hid (∀ z ∈ M.take (j + 1), z ∈ L2) := Lib.hid (fun z hz => by
                  rw [take_snoc HY.out] at hz
                  rcases List.mem_append.1 hz with h | h
                  · exact HIN.out z h
                  · simp at h; subst h; exact hyl)
                clear hd hyl
                go_wp2_with fail
                go_roundw
                case rel => exact ⟨j + 1, m2, g2, c2, L2, by go_num, rfl, HM2.out, by omega, HNR2.out, HX2.out, HIN2.out, HRW.out⟩
                case measure => simp [intOf]; omega
              · have hd : decide (y ∈ L2) = false := by simp [hyl]
                rw [hd]
                have HPU := Lib.hid (HNR2.out.push HR.out (by have := HM2.out; omega) (x := x) (y := y) (by rw [← HMM.out]; exact List.mem_of_getElem? HY.out) hyl)
                have HOWN := Lib.hid ((HRW.out.alloc (.cells #[.int .i64 y] 3)).get (i := 1) rfl)
                have hBA := (Below.refl wr.heap.size wr).alloc (Nat.le_refl _) (.cells #[.int .i64 y] 3)
                have HBA := Lib.hid hBA
                clear hd hyl hBA
                go_wp2_with (at_builtin; refine wpList_lie rfl _ _ _ rfl rowI (base := w.heap.size) (by simp; omega) rfl HOWN.out ⟨wr.heap.size, 0, none⟩ 1 1 [.int .i64 y] rfl rfl (cells1 (by simp [go_sem])) (by simp [Value.oneCell']) (by decide) (by simp only [RIz]; omega) (by simp only [RIz]; unfold maxLen; omega) wr.heap.size (by simp) ?_; intro g3 cap w8 hown8 hg8 hl8 hlt8; have hr8 := rizGrow (y := y) HRW.out HBA.out (i := 1) rfl hown8 hg8 hl8; have HR8 := Lib.hid hr8; clear hr8 hown8 hg8 hl8 hlt8)
                go_roundw
                case rel => exact ⟨j + 1, m2 + 1, g3, cap, L2 ++ [y], by go_num, rfl, by rw [List.length_append, ← HM2.out]; rfl, by omega, HPU.out, by rw [List.getElem?_append_left (by have := HM2.out; omega)]; exact HX2.out, fun z hz => by
                  rw [take_snoc HY.out] at hz
                  rcases List.mem_append.1 hz with h | h
                  · exact List.mem_append_left _ (HIN.out z h)
                  · exact List.mem_append_right _ h, HR8.out⟩
                case measure => simp [intOf]; omega
        · obtain rfl : ml = j := by omega
          have HNX : RowKit.Hid (NearI s p L2 (i + 1)) := Lib.hid (HNR2.out.next HX2.out (fun y hy => by
            have h1 := HIN.out
            rw [HML.out, List.take_length] at h1
            exact h1 y (by rw [HMM.out]; exact hy)))
          have HR3 : RowKit.Hid (Rws w wr [RIz (.slice (some ⟨g2, 0, none⟩) m2 c2) m2 L2]) := Lib.hid (HRW.out.sub (.cons _ (List.Sublist.refl _)))
          go_wp2_with fail
          go_roundw
          case rel => exact ⟨i + 1, m2, g2, c2, L2, by go_num, rfl, HM2.out, by omega, HNX.out, HR3.out⟩
          case measure => simp [intOf]; omega
    · obtain rfl : m = i := by omega
      have HSS := Lib.hid (rizSl HRW.out (i := 0) rfl HM.out)
      go_wp2_with fail
      go_ret
      exact ⟨L, g, c, m, rfl, HM.out, by rw [← HM.out]; exact HNR.out, HSS.out, HRW.out.bel⟩
end Go.Proofs.YtopnedihknjjfaaGreatDoor

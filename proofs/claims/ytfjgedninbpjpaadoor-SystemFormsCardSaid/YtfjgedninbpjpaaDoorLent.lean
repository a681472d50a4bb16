/-
  semblancebook.LentInts, StaysInts: numbers lent with room behind them.
-/
import Derived.Test.YtfjgedninbpjpaaDoorForms2
import Derived.Deep.RegionHeld3
namespace Go.Proofs.YtfjgedninbpjpaaDoor
open Go.RowKit Pl

/-- Numbers lent: behind them two marks. -/
structure LentI (w : World) (v : Value) (xs : List Int) : Prop where
  ex : ∃ g c, v = .slice (some ⟨g, 0, none⟩) xs.length c ∧ xs.length + 2 ≤ c ∧ c ≤ maxLen ∧ SlAt encI 1 w (some ⟨g, 0, none⟩) g 0 (xs ++ [-77, -78])

theorem LentI.below {w w' : World} {v : Value} {xs : List Int} (h : LentI w v xs) (hB : Below w.heap.size w w') : LentI w' v xs := by
  obtain ⟨g, c, h1, h2, h3, h4⟩ := h.ex
  exact ⟨g, c, h1, h2, h3, h4.below hB (Nat.le_refl _)⟩

theorem SlAt.pre {α : Type} {enc : α → List Value} {k : Nat} {w : World} {a : Option Addr} {b off : Nat} {xs ys : List α} (h : SlAt enc k w a b off (xs ++ ys)) : SlAt enc k w a b off xs :=
  ⟨fun hp => h.ad (by simp; omega), fun hp => h.lt (by simp; omega), fun i x hx => h.cell i x (by rw [List.getElem?_append_left (List.getElem?_eq_some_iff.1 hx).1]; exact hx)⟩

theorem slAt_flatI {w : World} {a : Option Addr} {ad : Addr} {b off : Nat} {xs : List Int} (hS : SlAt encI 1 w a b off xs) (ha : a = some ad) :
    (∀ j u, (xs.flatMap encI)[j]? = some u → w.cell? (ad.add j) = some u) ∧ (∀ u ∈ xs.flatMap encI, u.oneCell' = true) ∧ (xs.flatMap encI).length = xs.length * 1 := by
  refine ⟨?_, ?_, length_flatMap lenI xs⟩
  · intro j u hu
    have hj : j < xs.length := by have := (List.getElem?_eq_some_iff.1 hu).1; rw [length_flatMap lenI] at this; omega
    have had := hS.ad (by omega)
    rw [ha] at had
    cases had
    rw [Go.WideShapes.add_plain]
    obtain ⟨y, hy⟩ := getElem?_of_lt hj
    have h1 := getElem?_flatMap lenI xs j y hy 0 _ rfl
    rw [Nat.mul_one, Nat.add_zero] at h1
    rw [h1] at hu
    cases hu
    exact hS.ci hy
  · intro u hu
    obtain ⟨y, _, hy⟩ := List.mem_flatMap.1 hu
    simp [encI] at hy; subst hy; rfl

theorem own_cap {w : World} {base : Nat} {e : TypeId} {k n m cap : Nat} {ad : Addr} {xs : List Value} (h : w.ownsRow base e k (.slice (some ad) m cap) n xs) : n ≤ cap ∧ cap ≤ maxLen := by
  rcases h.2 with ⟨h1, _⟩ | ⟨g, cap', cur, hv, _, _, h2, h3, _⟩
  · cases h1
  · simp only [Value.slice.injEq] at hv
    obtain ⟨_, _, rfl⟩ := hv
    exact ⟨h2, h3⟩

def LentPost (xs : List Int) (w : World) (e : Ending) (w' : World) : Prop := ∃ v, e = .returned v ∧ LentI w' v xs ∧ Below w.heap.size w w'

theorem lent_mk {w' : World} {base g n cap : Nat} {xs : List Int} (hn : n = xs.length) (h : w'.ownsRow base 3 1 (.slice (some ⟨g, 0, none⟩) (n + 2) cap) (n + 2) (xs.flatMap encI ++ [.int .i64 (-77), .int .i64 (-78)])) : LentI w' (.slice (some ⟨g, 0, none⟩) n cap) xs := by
  subst hn
  have h2 : w'.ownsRow base 3 1 (.slice (some ⟨g, 0, none⟩) (xs.length + 2) cap) (xs ++ [-77, -78]).length ((xs ++ [-77, -78]).flatMap encI) := by
    rw [List.flatMap_append, List.length_append]; exact h
  obtain ⟨a, c, b, hv, h3, h4, h5, _⟩ := slAt_own lenI h2
  simp only [Value.slice.injEq] at hv
  obtain ⟨rfl, _, rfl⟩ := hv
  have := h5.ad (by simp)
  simp at this
  subst this
  exact ⟨_, _, rfl, by simpa using h3, h4, h5⟩

set_option maxRecDepth 100000 in
theorem lentInts_any {w : World} {a : Option Addr} {b off c : Nat} {xs : List Int} (hS : SlAt encI 1 w a b off xs) (hn : xs.length ≤ 1000000) :
    Calls Tryd.prog 41 #[.slice a xs.length c] w (LentPost xs w) := by
  obtain ⟨n, hnn⟩ : ∃ n, n = xs.length := ⟨_, rfl⟩
  have HS := Lib.hid hS; have HNN := Lib.hid hnn
  rw [← hnn] at hn ⊢
  clear hnn hS
  cases a with
  | none =>
    have h0 : n = 0 := by
      rcases Nat.eq_zero_or_pos n with h | h
      · exact h
      · have := HS.out.ad (by rw [← HNN.out]; exact h)
        cases this
    subst h0
    have hx : xs = [] := List.eq_nil_of_length_eq_zero HNN.out.symm
    have HXS := Lib.hid hx
    clear hx
    go_enter Tryd.func41, Tryd.ntmps41
    go_wp2_with (at_builtin; refine wpList_app1 rfl (Operand.tmp 5) (Operand.tmp 6) _ rfl rowI ((Below.refl w.heap.size w).alloc (Nat.le_refl _) _) (by simp) rfl (World.ownsRow_nil _ _ _ _) ⟨w.heap.size, 0, none⟩ 2 2 [.int .i64 (-77), .int .i64 (-78)] rfl rfl (cells2 (by simp [go_sem]) (by simp [go_sem])) (by simp [Value.oneCell']) (by decide) (by omega) (by unfold maxLen; omega) ?_; intro g cap w1 hown1 hB1 _)
    have hcap := own_cap hown1
    have hcap1 := hcap.1
    have hcap2 := hcap.2
    unfold maxLen at hcap2
    have HO := Lib.hid hown1; have HB := Lib.hid hB1
    clear hown1 hB1 hcap
    go_wp2
    go_ret
    exact ⟨_, rfl, lent_mk (n := 0) HNN.out (by rw [HXS.out]; exact HO.out), HB.out⟩
  | some ad =>
    obtain ⟨hx, h1, hl⟩ := slAt_flatI HS.out rfl
    rw [← HNN.out] at hl
    have HX := Lib.hid hx; have H1 := Lib.hid h1; have HL := Lib.hid hl
    clear hx h1 hl
    go_enter Tryd.func41, Tryd.ntmps41
    go_wp2_with (first
      | (at_builtin; refine wpList_app rfl (Operand.const (Value.slice none 0 0)) (Operand.tmp 4) _ rfl rowI (Below.refl w.heap.size w) (Nat.le_refl _) rfl (World.ownsRow_nil _ _ _ _) ad n c (xs.flatMap encI) rfl HL.out HX.out H1.out (by omega) (by unfold maxLen; omega) ?_; intro v' w1 hown1 hB1 _; have HO1 := Lib.hid hown1; have HB1 := Lib.hid hB1; have hs1 := hB1.size; clear hown1 hB1)
      | (at_builtin; refine wpList_app1 rfl (Operand.tmp 5) (Operand.tmp 6) _ rfl rowI (HB1.out.alloc hs1 _) (by simp; omega) rfl (HO1.out.alloc _) ⟨w1.heap.size, 0, none⟩ 2 2 [.int .i64 (-77), .int .i64 (-78)] rfl rfl (cells2 (by simp [go_sem]) (by simp [go_sem])) (by simp [Value.oneCell']) (by decide) (by omega) (by unfold maxLen; omega) ?_; intro g cap w2 hown2 hB2 _; have hcap1 : n + 2 ≤ cap := (by have := (own_cap hown2).1; omega); have hcap2 : cap ≤ 9223372036854775807 := (by have := (own_cap hown2).2; unfold maxLen at this; omega); have HO := Lib.hid hown2; have HB := Lib.hid hB2; clear hown2 hB2))
    go_wp2
    go_ret
    exact ⟨_, rfl, lent_mk (n := n) HNN.out (by have h := HO.out; rw [Nat.zero_add, List.nil_append] at h; exact h), HB.out⟩

set_option maxRecDepth 100000 in
theorem staysInts_any {w : World} {v : Value} {a : Option Addr} {b off c : Nat} {xs : List Int} (hL : LentI w v xs) (hS : SlAt encI 1 w a b off xs) (hn : xs.length ≤ 1000000) :
    Calls Tryd.prog 46 #[v, .slice a xs.length c] w fun e w' => e = .returned (.bool true) ∧ ∃ m, w' = w.drewN m := by
  obtain ⟨g, cap, rfl, hc1, hc2, hg⟩ := hL.ex
  have hq := sameInts_any (c1 := cap) (c2 := c) hg.pre hS (by omega) (by omega)
  have d0 := hg.ci (i := xs.length) (x := -77) (by simp)
  have d1 := hg.ci (i := xs.length + 1) (x := -78) (by simp)
  have hgl := hg.lt (by simp)
  simp only [Nat.zero_add] at d0 d1
  unfold maxLen at hc2
  obtain ⟨n, hnn⟩ : ∃ n, n = xs.length := ⟨_, rfl⟩
  rw [← hnn] at hq hc1 hn d0 d1 ⊢
  simp only [decide_true] at hq
  have HQ := Lib.hid hq
  clear hL hg hS hq hnn
  have hk1 : (0 : Int) ≤ (n : Int) + 1 := by omega
  have hk2 : ((n : Int) + 1).toNat = n + 1 := by omega
  go_enter Tryd.func46, Tryd.ntmps46
  go_wp2_with fail
  refine HQ.out.mono ?_
  rintro e w1 ⟨rfl, m, rfl⟩
  go_wp2
  go_ret
  exact ⟨rfl, m, rfl⟩
end Go.Proofs.YtfjgedninbpjpaaDoor

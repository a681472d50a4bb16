/-
  strong.Classes.
  Plain: who is strongly bisimilar simulates one another; a state that has another one's steps and one more simulates it.
-/
import Derived.Test.YtfakdgljilmpkaaGreatDoorStrK
import Derived.Test.YtfakdgljilmpkaaGreatDoorG32
namespace Go.Proofs.YtfakdgljilmpkaaGreatDoor
open Go.RowKit Pl

theorem big_norm {s : Lts} {n : Nat} {C : Nat → Int} (h : Big s.norm n C) : Big s n C := h.steps (fun _ _ _ _ _ => mem_nf stoE _ s.es)

/-- What Classes answers of a right system. -/
def StrClasses (s : Lts) (n : Nat) (w : World) (e : Ending) (w' : World) : Prop :=
  ∃ (inn : Nat → Nat) (a : Option Addr) (c : Nat), Big s n (fun p => (inn p : Int)) ∧ e = .returned (.tuple #[.slice a n c, .nilIface]) ∧ w'.ownsRow w.heap.size 3 1 (.slice a n c) n ((canon (flN n inn)).flatMap encI) ∧ Below w.heap.size w w'

set_option maxRecDepth 100000 in
set_option maxHeartbeats 2000000 in
theorem strClasses_any {p : Addr} {s : Lts} {n : Nat} (h : s.Right) (hn : s.st = (n : Int)) {a : Option Addr} {b off c : Nat} {w : World} (hG : GErr 0 p w) (hS : SlAt encE 3 w a b off s.es) :
    Calls Tryz.prog 19 #[.agg #[.int .i64 s.st, .int .i64 s.lb, .int .i64 s.s0, .slice a s.es.length c]] w (StrClasses s n w) := by
  have hB0 := (Below.refl w.heap.size w).alloc (Nat.le_refl _) (Obj.cells #[.int .i64 s.st, .int .i64 s.lb, .int .i64 s.s0, .slice a s.es.length c] 24)
  have HB0 := Lib.hid hB0
  rcases Nat.eq_zero_or_pos n with rfl | hn0
  · have HN := Lib.hid (refineZero_any (c := c) h hn (hG.below hB0) (hS.below hB0 (Nat.le_refl _)))
    clear hB0 hS hG h hn
    go_enter Tryz.func19, Tryz.ntmps19
    go_wp2_with fail
    refine HN.out.mono ?_
    unfold runZ
    rintro e w1 ⟨rfl, hB1⟩
    have HB1 := Lib.hid ((HB0.out.trans (hB1.mono (by simp))).alloc (by have := hB1.size; simp at this; omega) (.cells #[.slice none 0 0, .slice none 0 0, .slice none 0 0] 38))
    clear hB1 HN HB0
    go_wp2_with fail
    go_ret2
    exact ⟨fun _ => 0, none, 0, ⟨fun p q hp => by omega, fun R _ p q hp => by omega⟩, rfl, World.ownsRow_nil _ _ _ _, HB1.out⟩
  · have HN := Lib.hid (refineYes_any (c := c) h hn hn0 (hG.below hB0) (hS.below hB0 (Nat.le_refl _)))
    clear hB0 hS hG h hn
    go_enter Tryz.func19, Tryz.ntmps19
    go_wp2_with fail
    refine HN.out.mono ?_
    unfold RefPost
    rintro e w1 ⟨inn, ga, cg, cc, ta, tn, tc, ba, bb, bc, hbig, _, rfl, hown, _, hB1⟩
    have hz : w.heap.size ≤ w1.heap.size := by have := hB1.size; simp at this; omega
    have HB1 := Lib.hid ((HB0.out.trans (hB1.mono (by simp))).alloc hz (.cells #[.slice (some ⟨cg, 0, none⟩) n cc, .slice ta tn tc, .slice ba n bc] 38))
    have HO := Lib.hid ((own_mono hown (show w.heap.size ≤ _ by simp)).alloc (.cells #[.slice (some ⟨cg, 0, none⟩) n cc, .slice ta tn tc, .slice ba n bc] 38))
    have HBIG := Lib.hid (big_norm hbig)
    clear hB1 hown hbig HN HB0
    go_wp2_with fail
    go_ret2
    exact ⟨inn, _, cc, HBIG.out, rfl, HO.out, HB1.out⟩

set_option maxRecDepth 100000 in
set_option maxHeartbeats 2000000 in
theorem strClassesNo_any {p : Addr} {s : Lts} (h : ¬ s.Right) {a : Option Addr} {b off c : Nat} {w : World} (hG : GErr 0 p w) (hT : ErrType w) (hS : SlAt encE 3 w a b off s.es) :
    Calls Tryz.prog 19 #[.agg #[.int .i64 s.st, .int .i64 s.lb, .int .i64 s.s0, .slice a s.es.length c]] w fun e w' => ∃ v, e = .returned (.tuple #[.slice none 0 0, v]) ∧ FaultS w' p v ∧ Below w.heap.size w w' := by
  have hB0 := (Below.refl w.heap.size w).alloc (Nat.le_refl _) (Obj.cells #[.int .i64 s.st, .int .i64 s.lb, .int .i64 s.s0, .slice a s.es.length c] 24)
  have HB0 := Lib.hid hB0
  have HN := Lib.hid (refineNo_any (c := c) h (hG.below hB0) (hT.below hB0) (hS.below hB0 (Nat.le_refl _)))
  clear hB0 hS hG h hT
  go_enter Tryz.func19, Tryz.ntmps19
  go_wp2_with fail
  refine HN.out.mono ?_
  unfold runZ
  rintro e w1 ⟨v, rfl, hf, hB1⟩
  have hz : w.heap.size ≤ w1.heap.size := by have := hB1.size; simp at this; omega
  have HB1 := Lib.hid ((HB0.out.trans (hB1.mono (by simp))).alloc hz (.cells #[.slice none 0 0, .slice none 0 0, .slice none 0 0] 38))
  have HF := Lib.hid (hf.below ((Below.refl w1.heap.size w1).alloc (Nat.le_refl _) (.cells #[.slice none 0 0, .slice none 0 0, .slice none 0 0] 38)))
  clear hB1 hf HN HB0
  go_wp2_with fail
  go_ret2
  exact ⟨v, rfl, HF.out, HB1.out⟩
end Go.Proofs.YtfakdgljilmpkaaGreatDoor

namespace Go.Proofs.YtfakdgljilmpkaaGreatDoor
open Go.RowKit Pl

theorem canon_eqv {l : List Int} {i k : Nat} {x y cx cy : Int} (hx : l[i]? = some x) (hy : l[k]? = some y) (h1 : (canon l)[i]? = some cx) (h2 : (canon l)[k]? = some cy) : cx = cy ↔ x = y := by
  rw [canon_get, hx] at h1
  rw [canon_get, hy] at h2
  obtain rfl := Option.some.inj h1
  obtain rfl := Option.some.inj h2
  exact canon_eq_iff hx hy
theorem big_sim {s : Lts} {n : Nat} {C : Nat → Int} {R : Nat → Nat → Bool} (hb : Big s n C) (hg : Great s.norm n R) (hr : s.Right) (hn : s.st = (n : Int)) {p q : Nat} (hp : p < n) (hq : q < n) (e : C p = C q) : R p q = true :=
  hg.left.sim (fun a i => decide (C a = C i)) (fun a i ha hi h => by
    rw [decide_eq_true_eq] at h
    rw [doesB_iff hr.norm hn]
    intro l t hx
    have hx2 := mem_outs.1 hx
    have hxr := offB_false.1 (hr.norm.edges _ hx2)
    have hst : s.norm.st = (n : Int) := hn
    simp only at hxr
    obtain ⟨u, hu, h1, h2⟩ := (hb.bis a i ha hi h).1 l t (by omega) ((mem_nf stoE _ _).1 hx2)
    exact ⟨u, hu, mem_outs.2 ((mem_nf stoE _ _).2 h1), by simpa using h2⟩) p q hp hq (by simpa using e)

/-- The steps of x, once more, from m. -/
def moreE (es : List E) (x : Int) (m : Nat) : List E := (es.filter (fun y => y.1 == x)).map (fun y => ((m : Int), y.2.1, y.2.2))
theorem moreE_len (es : List E) (x : Int) (m : Nat) : (moreE es x m).length ≤ es.length := by unfold moreE; rw [List.length_map]; exact List.length_filter_le _ _
theorem moreE_snoc {es : List E} {k : Nat} {y : E} (h : es[k]? = some y) (x : Int) (m : Nat) : moreE (es.take (k + 1)) x m = moreE (es.take k) x m ++ (if y.1 = x then [((m : Int), y.2.1, y.2.2)] else []) := by
  unfold moreE
  rw [take_snoc h, List.filter_append, List.map_append]
  by_cases e : y.1 = x
  · simp [e]
  · have e2 : (y.1 == x) = false := by simpa using e
    simp [e]
theorem mem_moreE {es : List E} {x : Int} {m : Nat} {z : E} : z ∈ moreE es x m ↔ z.1 = (m : Int) ∧ (x, z.2.1, z.2.2) ∈ es := by
  unfold moreE
  rw [List.mem_map]
  constructor
  · rintro ⟨y, hy, rfl⟩
    obtain ⟨h1, h2⟩ := List.mem_filter.1 hy
    rw [beq_iff_eq] at h2
    subst h2
    exact ⟨rfl, h1⟩
  · rintro ⟨h1, h2⟩
    refine ⟨_, List.mem_filter.2 ⟨h2, by simp⟩, ?_⟩
    obtain ⟨z1, z2, z3⟩ := z
    simp only at h1
    rw [h1]

/-- The system with one state more. -/
def moreS (s : Lts) (n : Nat) (e : E) : Lts := ⟨((n + 1 : Nat) : Int), s.lb, s.s0, s.es ++ moreE s.es e.1 n ++ [((n : Int), e.2.1, e.2.2)]⟩

theorem more_sim {s : Lts} {n : Nat} (_hr : s.Right) (hn : s.st = (n : Int)) {e : E} {f : Nat} (he : e.1 = (f : Int)) (hf : f < n) (ht : (moreS s n e).Right) {R : Nat → Nat → Bool} (hg : Great (moreS s n e).norm (n + 1) R) : R f n = true :=
  hg.left.sim (fun a i => decide (a = i ∨ (a = f ∧ i = n))) (fun a i ha hi h => by
    rw [decide_eq_true_eq] at h
    rw [doesB_iff ht.norm (n := n + 1) rfl]
    intro l t hx
    have hx2 := mem_outs.1 hx
    have hxr := offB_false.1 (ht.norm.edges _ hx2)
    simp only [Lts.norm, moreS] at hxr
    rcases h with rfl | ⟨rfl, rfl⟩
    · exact ⟨t, by omega, hx, by simp⟩
    · refine ⟨t, by omega, ?_, by simp⟩
      have h1 := (mem_nf stoE _ _).1 hx2
      have h2 : ((a : Int), l, (t : Int)) ∈ s.es := by
        simp only [moreS, List.mem_append, List.mem_singleton, Prod.mk.injEq] at h1
        rcases h1 with (h1 | h1) | h1
        · exact h1
        · have := (mem_moreE.1 h1).1
          simp only at this
          omega
        · omega
      refine mem_outs.2 ((mem_nf stoE _ _).2 ?_)
      simp only [moreS, List.mem_append]
      exact .inl (.inr (mem_moreE.2 ⟨rfl, by rw [he]; exact h2⟩))) f n (by omega) (by omega) (by simp)
end Go.Proofs.YtfakdgljilmpkaaGreatDoor

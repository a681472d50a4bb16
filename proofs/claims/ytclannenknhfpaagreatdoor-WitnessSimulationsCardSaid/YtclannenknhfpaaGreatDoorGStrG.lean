/-
  strong.play: smallest, by slices.MinFunc and its closure.
  strong.play.smallest: the least block of the first heap that has more than one.
  strong.newPlay.
  strong.Refine, of a right system that has states.
  strong.newPlay and Refine of a system without states, and of none; strong.Classes.
  strong.Classes.
  Plain: who is strongly bisimilar simulates one another; a state that has another one's steps and one more simulates it.
  Plain: lists of pairs that are simulations.
  witness: byPairs.meets: whether a state meets a step, by pairs.
-/
import Derived.Test.YtclannenknhfpaaGreatDoorGParB
import Derived.Test.YtclannenknhfpaaGreatDoorGAs
import Derived.Test.YtclannenknhfpaaGreatDoorGNew
import Derived.Test.YtclannenknhfpaaGreatDoorGPlS
import Derived.Test.YtclannenknhfpaaGreatDoorGSimF
import Derived.Test.YtclannenknhfpaaGreatDoorGKeyP
import Derived.Test.YtclannenknhfpaaGreatDoorGGraphB
import Derived.Deep.QuietTactic
import Derived.BigQuiet
namespace Go.Proofs.YtclannenknhfpaaGreatDoor
open Go.RowKit Pl

section
variable {w0 w : World} {s : Lts} {K : PK} {S : SK} {n : Nat} {el pl inn : Nat → Nat} {bl : List B3} {hp ga : Nat → Nat} {sz : List Int} {tl : List Value} {rest : List Rw}

/-- What MinFunc answers. -/
def MinPost (f : Nat → Nat) (xs : List Nat) (w : World) (e : Ending) (w' : World) : Prop := ∃ m, m ∈ xs ∧ e = .returned (.int .i64 (m : Int)) ∧ (∀ x ∈ xs, f m ≤ f x) ∧ Below w.heap.size w w'

end
end Go.Proofs.YtclannenknhfpaaGreatDoor

namespace Go.Proofs.YtclannenknhfpaaGreatDoor
open Go.RowKit Pl

namespace Pl
theorem another {l : List Nat} (hn : l.Nodup) (h2 : 2 ≤ l.length) {b : Nat} : ∃ c, c ∈ l ∧ c ≠ b := by
  apply Classical.byContradiction
  intro h
  have := nodup_le (l := l) (m := [b]) hn (fun x hx => by
    rcases Classical.em (x = b) with e | e
    · simp [e]
    · exact absurd ⟨x, hx, e⟩ h)
  simp at this; omega
theorem bks_nodup (el hp : Nat → Nat) (bl : List B3) (k h : Nat) : (bksOf el hp bl k h).Nodup := List.Pairwise.filter _ List.nodup_range
end Pl

section
variable {w0 w : World} {s : Lts} {K : PK} {S : SK} {n : Nat} {el pl inn : Nat → Nat} {bl : List B3} {hp ga : Nat → Nat} {sz : List Int} {tl : List Value} {rest : List Rw}

end
end Go.Proofs.YtclannenknhfpaaGreatDoor

namespace Go.Proofs.YtclannenknhfpaaGreatDoor
open Go.RowKit Pl

def strName : ByteArray := ⟨#[115, 116, 114, 111, 110, 103]⟩
/-- A fault of this layer over one of the layer system. -/
def FaultS (w : World) (p : Addr) (v : Value) : Prop :=
  ∃ vi, FaultAt w v strName vi ∧ FaultAt w vi sysName (.iface 197 (.pointer (some p)))
theorem FaultS.below {w w' : World} {p : Addr} {v : Value} (h : FaultS w p v) (hB : Below w.heap.size w w') : FaultS w' p v := by
  obtain ⟨vi, h1, h2⟩ := h
  exact ⟨vi, h1.below hB, h2.below hB⟩

end Go.Proofs.YtclannenknhfpaaGreatDoor

namespace Go.Proofs.YtclannenknhfpaaGreatDoor
open Go.RowKit Pl

/-- What Refine answers. -/
def RefPost (s : Lts) (n : Nat) (w : World) (e : Ending) (w' : World) : Prop :=
  ∃ (inn ga : Nat → Nat) (cg cc : Nat) (ta : Option Addr) (tn tc : Nat) (ba : Option Addr) (bb bc : Nat), Big s n (fun p => (inn p : Int)) ∧ (∀ p, p < n → 1 ≤ ga p ∧ 2 ^ (ga p - 1) ≤ n) ∧
    e = .returned (.tuple #[.agg #[.slice (some ⟨cg, 0, none⟩) n cc, .slice ta tn tc, .slice ba n bc], .nilIface]) ∧ w'.ownsRow w.heap.size 3 1 (.slice (some ⟨cg, 0, none⟩) n cc) n ((canon (flN n inn)).flatMap encI) ∧ SlAt encI 1 w' ba bb 0 (flN n ga) ∧ Below w.heap.size w w'

theorem hbk_of {n : Nat} {el pl inn hp : Nat → Nat} {bl : List B3} {H : Nat} {s : Lts} (hi : PI n el pl inn bl) (hr : Run s n inn hp H) {b : Nat} (hb : b < bl.length) : ∀ p, p < n → inn p = b → hp p = hbk el hp bl b := fun p hpn e => by
  obtain ⟨q, hq, h1, h2⟩ := hi.hbk (hp := hp) hb
  rw [h2]
  exact hr.sub p q hpn hq (by rw [e, h1])
/-- No heap has two blocks. -/
theorem heaps_one {n : Nat} {el pl inn hp : Nat → Nat} {bl : List B3} {H : Nat} {s : Lts} (hi : PI n el pl inn bl) (hr : Run s n inn hp H) (h : ∀ k, k < H → (bksOf el hp bl bl.length k).length < 2) : ∀ p q, p < n → q < n → hp p = hp q → inn p = inn q := fun p q hpn hqn e => by
  apply Classical.byContradiction
  intro hne
  have hp1 := hi.lt hpn; have hq1 := hi.lt hqn
  have h1 : inn p ∈ bksOf el hp bl bl.length (hp p) := mem_bks.2 ⟨hp1, (hbk_of hi hr hp1 p hpn rfl).symm⟩
  have h2 : inn q ∈ bksOf el hp bl bl.length (hp p) := mem_bks.2 ⟨hq1, by rw [e]; exact (hbk_of hi hr hq1 q hqn rfl).symm⟩
  have h3 := h (hp p) (hr.rng p hpn)
  have h4 := nodup_le (l := [inn p, inn q]) (m := bksOf el hp bl bl.length (hp p)) (by simp [hne]) (fun x hx => by
    simp at hx
    rcases hx with rfl | rfl
    · exact h1
    · exact h2)
  simp at h4; omega

end Go.Proofs.YtclannenknhfpaaGreatDoor

namespace Go.Proofs.YtclannenknhfpaaGreatDoor
open Go.RowKit Pl

/-- An empty run. -/
def runZ : Value := .agg #[.slice none 0 0, .slice none 0 0, .slice none 0 0]

end Go.Proofs.YtclannenknhfpaaGreatDoor

namespace Go.Proofs.YtclannenknhfpaaGreatDoor
open Go.RowKit Pl

theorem big_norm {s : Lts} {n : Nat} {C : Nat → Int} (h : Big s.norm n C) : Big s n C := h.steps (fun _ _ _ _ _ => mem_nf stoE _ s.es)

/-- What Classes answers of a right system. -/
def StrClasses (s : Lts) (n : Nat) (w : World) (e : Ending) (w' : World) : Prop :=
  ∃ (inn : Nat → Nat) (a : Option Addr) (c : Nat), Big s n (fun p => (inn p : Int)) ∧ e = .returned (.tuple #[.slice a n c, .nilIface]) ∧ w'.ownsRow w.heap.size 3 1 (.slice a n c) n ((canon (flN n inn)).flatMap encI) ∧ Below w.heap.size w w'

end Go.Proofs.YtclannenknhfpaaGreatDoor

namespace Go.Proofs.YtclannenknhfpaaGreatDoor
open Go.RowKit Pl

theorem canon_eqv {l : List Int} {i k : Nat} {x y cx cy : Int} (hx : l[i]? = some x) (hy : l[k]? = some y) (h1 : (canon l)[i]? = some cx) (h2 : (canon l)[k]? = some cy) : cx = cy ↔ x = y := by
  rw [canon_get, hx] at h1
  rw [canon_get, hy] at h2
  obtain rfl := Option.some.inj h1
  obtain rfl := Option.some.inj h2
  exact canon_eq_iff hx hy
theorem big_sim {s : Lts} {n : Nat} {C : Nat → Int} {R : Nat → Nat → Bool} (hb : Big s n C) (hg : Great s.norm n R) (hr : s.Right) (hn : s.st = (n : Int)) {p q : Nat} (hp : p < n) (hq : q < n) (e : C p = C q) : R p q = true :=
  hg.left.sim (fun a i => decide (C a = C i)) (fun a i ha hi h => by
    rw [decide_eq_true_eq] at h
    rw [doesB_iff hr.norm hn]
    intro l t hx
    have hx2 := mem_outs.1 hx
    have hxr := offB_false.1 (hr.norm.edges _ hx2)
    have hst : s.norm.st = (n : Int) := hn
    simp only at hxr
    obtain ⟨u, hu, h1, h2⟩ := (hb.bis a i ha hi h).1 l t (by omega) ((mem_nf stoE _ _).1 hx2)
    exact ⟨u, hu, mem_outs.2 ((mem_nf stoE _ _).2 h1), by simpa using h2⟩) p q hp hq (by simpa using e)

/-- The steps of x, once more, from m. -/
def moreE (es : List E) (x : Int) (m : Nat) : List E := (es.filter (fun y => y.1 == x)).map (fun y => ((m : Int), y.2.1, y.2.2))
theorem moreE_len (es : List E) (x : Int) (m : Nat) : (moreE es x m).length ≤ es.length := by unfold moreE; rw [List.length_map]; exact List.length_filter_le _ _
theorem moreE_snoc {es : List E} {k : Nat} {y : E} (h : es[k]? = some y) (x : Int) (m : Nat) : moreE (es.take (k + 1)) x m = moreE (es.take k) x m ++ (if y.1 = x then [((m : Int), y.2.1, y.2.2)] else []) := by
  unfold moreE
  rw [take_snoc h, List.filter_append, List.map_append]
  by_cases e : y.1 = x
  · simp [e]
  · have e2 : (y.1 == x) = false := by simpa using e
    simp [e]
theorem mem_moreE {es : List E} {x : Int} {m : Nat} {z : E} : z ∈ moreE es x m ↔ z.1 = (m : Int) ∧ (x, z.2.1, z.2.2) ∈ es := by
  unfold moreE
  rw [List.mem_map]
  constructor
  · rintro ⟨y, hy, rfl⟩
    obtain ⟨h1, h2⟩ := List.mem_filter.1 hy
    rw [beq_iff_eq] at h2
    subst h2
    exact ⟨rfl, h1⟩
  · rintro ⟨h1, h2⟩
    refine ⟨_, List.mem_filter.2 ⟨h2, by simp⟩, ?_⟩
    obtain ⟨z1, z2, z3⟩ := z
    simp only at h1
    rw [h1]

/-- The system with one state more. -/
def moreS (s : Lts) (n : Nat) (e : E) : Lts := ⟨((n + 1 : Nat) : Int), s.lb, s.s0, s.es ++ moreE s.es e.1 n ++ [((n : Int), e.2.1, e.2.2)]⟩

theorem more_sim {s : Lts} {n : Nat} (_hr : s.Right) (hn : s.st = (n : Int)) {e : E} {f : Nat} (he : e.1 = (f : Int)) (hf : f < n) (ht : (moreS s n e).Right) {R : Nat → Nat → Bool} (hg : Great (moreS s n e).norm (n + 1) R) : R f n = true :=
  hg.left.sim (fun a i => decide (a = i ∨ (a = f ∧ i = n))) (fun a i ha hi h => by
    rw [decide_eq_true_eq] at h
    rw [doesB_iff ht.norm (n := n + 1) rfl]
    intro l t hx
    have hx2 := mem_outs.1 hx
    have hxr := offB_false.1 (ht.norm.edges _ hx2)
    simp only [Lts.norm, moreS] at hxr
    rcases h with rfl | ⟨rfl, rfl⟩
    · exact ⟨t, by omega, hx, by simp⟩
    · refine ⟨t, by omega, ?_, by simp⟩
      have h1 := (mem_nf stoE _ _).1 hx2
      have h2 : ((a : Int), l, (t : Int)) ∈ s.es := by
        simp only [moreS, List.mem_append, List.mem_singleton, Prod.mk.injEq] at h1
        rcases h1 with (h1 | h1) | h1
        · exact h1
        · have := (mem_moreE.1 h1).1
          simp only at this
          omega
        · omega
      refine mem_outs.2 ((mem_nf stoE _ _).2 ?_)
      simp only [moreS, List.mem_append]
      exact .inl (.inr (mem_moreE.2 ⟨rfl, by rw [he]; exact h2⟩))) f n (by omega) (by omega) (by simp)
end Go.Proofs.YtclannenknhfpaaGreatDoor

namespace Go.Proofs.YtclannenknhfpaaGreatDoor
open Go.RowKit Pl

/-- Is the step met by q, by the pairs Z? -/
def meetsP (s : Lts) (Z : List (Int × Int)) (q : Int) (x : S) : Bool := (s.outs q).any (fun y => decide ((x.2, y.2) ∈ Z) && decide (y.1 = x.1))
structure OkPairs (s : Lts) (n : Nat) (Z : List (Int × Int)) : Prop where
  rng : ∀ z ∈ Z, 0 ≤ z.1 ∧ z.1 < (n : Int) ∧ 0 ≤ z.2 ∧ z.2 < (n : Int)
  met : ∀ z ∈ Z, ∀ x ∈ s.outs z.1, meetsP s Z z.2 x = true

/-- Each of the first k states with each of its list. -/
def prs (f : Nat → List Int) (k : Nat) : List (Int × Int) := (List.range k).flatMap (fun p => (f p).map (fun q => ((p : Int), q)))
theorem prs_zero (f : Nat → List Int) : prs f 0 = [] := rfl
theorem prs_succ (f : Nat → List Int) (k : Nat) : prs f (k + 1) = prs f k ++ (f k).map (fun q => ((k : Int), q)) := by
  unfold prs
  rw [List.range_succ, List.flatMap_append]; simp
theorem mem_prs {f : Nat → List Int} {k : Nat} {z : Int × Int} : z ∈ prs f k ↔ ∃ p : Nat, p < k ∧ z.1 = (p : Int) ∧ z.2 ∈ f p := by
  unfold prs
  rw [List.mem_flatMap]
  constructor
  · rintro ⟨p, hp, h⟩
    obtain ⟨q, hq, rfl⟩ := List.mem_map.1 h
    exact ⟨p, List.mem_range.1 hp, rfl, hq⟩
  · rintro ⟨p, hp, h1, h2⟩
    exact ⟨p, List.mem_range.2 hp, List.mem_map.2 ⟨z.2, h2, by rw [← h1]⟩⟩
theorem prs_len {f : Nat → List Int} {m : Nat} (h : ∀ p, (f p).length ≤ m) : ∀ k, (prs f k).length ≤ k * m
  | 0 => by simp [prs_zero]
  | k + 1 => by
    rw [prs_succ, List.length_append, List.length_map, Nat.succ_mul]
    have := prs_len h k; have := h k; omega

theorem prs_ok {s : Lts} (hr : s.Right) {n : Nat} (hn : s.st = (n : Int)) {f : Nat → List Int} {R : Nat → Nat → Prop} (hf : ∀ p, p < n → ∀ q, q ∈ f p ↔ ∃ i : Nat, q = (i : Int) ∧ i < n ∧ R p i)
    (hR : ∀ p q, p < n → q < n → R p q → ∀ (l : Int) (t : Nat), (l, (t : Int)) ∈ s.outs (p : Int) → ∃ u : Nat, u < n ∧ (l, (u : Int)) ∈ s.outs (q : Int) ∧ R t u) : OkPairs s n (prs f n) := by
  refine ⟨fun z hz => ?_, fun z hz x hx => ?_⟩
  · obtain ⟨p, hp, h1, h2⟩ := mem_prs.1 hz
    obtain ⟨i, h3, h4, _⟩ := (hf p hp _).1 h2
    omega
  · obtain ⟨p, hp, h1, h2⟩ := mem_prs.1 hz
    obtain ⟨i, h3, h4, h5⟩ := (hf p hp _).1 h2
    obtain ⟨l, y⟩ := x
    rw [h1] at hx
    have hyr := offB_false.1 (hr.edges _ (mem_outs.1 hx))
    simp only at hyr
    obtain ⟨t, rfl⟩ := Int.eq_ofNat_of_zero_le hyr.2.2.2.2.1
    obtain ⟨u, hu, k1, k2⟩ := hR p i hp h4 h5 l t hx
    unfold meetsP
    rw [List.any_eq_true]
    refine ⟨_, by rw [h3]; exact k1, ?_⟩
    rw [Bool.and_eq_true, decide_eq_true_eq, decide_eq_true_eq]
    exact ⟨mem_prs.2 ⟨t, by omega, rfl, (hf t (by omega) _).2 ⟨u, rfl, hu, k2⟩⟩, rfl⟩

theorem all_ok {s : Lts} (hr : s.Right) {n : Nat} (hn : s.st = (n : Int)) (hn3 : n ≤ 300) {R : Nat → Nat → Bool} (hg : Great s.norm n R) : OkPairs s.norm n (prs (upL R) n) :=
  prs_ok hr.norm hn (R := fun p q => R p q = true) (fun p hp q => by
    constructor
    · intro h
      have h1 := h
      unfold upL intsOf at h1
      obtain ⟨i, _, rfl⟩ := List.mem_map.1 h1
      have hi : i < 320 := by
        unfold idsN at h1
        obtain ⟨j, hj, e⟩ := List.mem_map.1 h1
        have e2 : j = i := by have h9 : (j : Int) = (i : Int) := e; omega
        subst e2
        exact List.mem_range.1 (List.mem_filter.1 hj).1
      have h2 := (mem_upL (R := R) (p := p) hi).1 h
      exact ⟨i, rfl, hg.left.rng p i hp h2, h2⟩
    · rintro ⟨i, rfl, hi, h⟩
      exact (mem_upL (by omega)).2 h) (fun p q hp hq h => (doesB_iff hr.norm hn).1 (hg.does p q hp h))

/-- Who is together with p, up to k. -/
def sameL (C : Nat → Int) (p k : Nat) : List Int := ((List.range k).filter (fun q => decide (C p = C q))).map Int.ofNat
theorem sameL_succ (C : Nat → Int) (p k : Nat) : sameL C p (k + 1) = sameL C p k ++ (if C p = C k then [(k : Int)] else []) := by
  unfold sameL
  rw [List.range_succ, List.filter_append, List.map_append]
  by_cases h : C p = C k <;> simp [h]
theorem sameL_len (C : Nat → Int) (p k : Nat) : (sameL C p k).length ≤ k := by
  unfold sameL
  rw [List.length_map]
  have := List.length_filter_le (fun q => decide (C p = C q)) (List.range k)
  simpa using this
theorem some_ok {s : Lts} (hr : s.Right) {n : Nat} (hn : s.st = (n : Int)) {C : Nat → Int} (hb : Big s n C) : OkPairs s.norm n (prs (fun p => sameL C p n) n) :=
  prs_ok hr.norm hn (R := fun p q => C p = C q) (fun p hp q => by
    unfold sameL
    rw [List.mem_map]
    constructor
    · rintro ⟨i, hi, rfl⟩
      obtain ⟨h1, h2⟩ := List.mem_filter.1 hi
      exact ⟨i, rfl, List.mem_range.1 h1, by simpa using h2⟩
    · rintro ⟨i, rfl, hi, h⟩
      exact ⟨i, List.mem_filter.2 ⟨List.mem_range.2 hi, by simpa using h⟩, rfl⟩) (fun p q hp hq h l t hx => by
    have hx2 := mem_outs.1 hx
    have hxr := offB_false.1 (hr.norm.edges _ hx2)
    have hst : s.norm.st = (n : Int) := hn
    simp only at hxr
    obtain ⟨u, hu, h1, h2⟩ := (hb.bis p q hp hq h).1 l t (by omega) ((mem_nf stoE _ _).1 hx2)
    exact ⟨u, hu, mem_outs.2 ((mem_nf stoE _ _).2 h1), h2⟩)
end Go.Proofs.YtclannenknhfpaaGreatDoor

namespace Go.Proofs.YtclannenknhfpaaGreatDoor
open Go.RowKit Pl

set_option maxRecDepth 100000 in
set_option maxHeartbeats 1000000 in
theorem pairFn_any {w : World} {pb sb mb k : Nat} {Z : List (Int × Int)} {l t : Int} (hp : w.cell? ⟨pb, 1, none⟩ = some (.map (some mb))) (h0 : w.cell? ⟨sb, 0, none⟩ = some (.int .i64 l)) (h1 : w.cell? ⟨sb, 1, none⟩ = some (.int .i64 t)) (hM : OMap w mb encP2 okPr encU (addP Z) k) (x : S) (hx : okPr (t, x.2)) :
    Calls Tryz.prog 154 #[.agg #[.int .i64 x.1, .int .i64 x.2], .pointer (some ⟨pb, 0, none⟩), .pointer (some ⟨sb, 0, none⟩)] w fun e w' => e = .returned (.bool (decide ((t, x.2) ∈ Z) && decide (x.1 = l))) ∧ Below w.heap.size w w' := by
  have hpl := World.block_lt_of_cell? _ _ hp
  have hsl := World.block_lt_of_cell? _ _ h0
  simp only at hpl hsl
  have hml := hM.lt
  obtain ⟨bb, hbb⟩ : ∃ bb, bb = decide ((t, x.2) ∈ Z) := ⟨_, rfl⟩
  obtain ⟨x1, x2⟩ := x
  simp only at hx hbb ⊢
  have hb0 := (Below.refl w.heap.size w).alloc (Nat.le_refl _) (.cells #[.int .i64 x1, .int .i64 x2] 84)
  have hlook : (Instr.lookup 74 (.map (some mb)) (.agg #[.int .i64 t, .int .i64 x2]) true).run Tryz.prog (w.alloc (.cells #[.int .i64 x1, .int .i64 x2] 84)) = .ok (.tuple #[.agg #[], .bool bb]) (w.alloc (.cells #[.int .i64 x1, .int .i64 x2] 84)) := by
    have h := (hM.of_block (hb0.block mb hml)).look encPair Tryz.underlying74 (zeroUnit _) (x := (t, x2)) hx true
    rw [addP_isSome] at h
    rw [hbb]
    refine h.trans ?_
    unfold addP encU
    by_cases hm : (t, x2) ∈ Z <;> simp [hm]
  rw [← hbb]
  clear hM hx hbb hb0
  go_enter Tryz.func154, Tryz.ntmps154
  cases bb
  · go_wp2_with fail
    go_ret
    exact ⟨rfl, (((Below.refl w.heap.size w).alloc (Nat.le_refl _) _).alloc (by simp) _)⟩
  · go_wp2_with fail
    go_ret
    exact ⟨by simp [Bool.beq_eq_decide_eq], (((Below.refl w.heap.size w).alloc (Nat.le_refl _) _).alloc (by simp) _)⟩

set_option maxRecDepth 100000 in
set_option maxHeartbeats 1000000 in
theorem idxStep_any {w : World} {a : Option Addr} {b off c : Nat} {ss : List S} (hS : SlAt encS 2 w a b off ss) (hl : ss.length ≤ 1000000) {pb sb : Nat} {P : S → Bool}
    (hK : ∀ W x, Below w.heap.size w W → x ∈ ss → Calls Tryz.prog 154 #[.agg #[.int .i64 x.1, .int .i64 x.2], .pointer (some ⟨pb, 0, none⟩), .pointer (some ⟨sb, 0, none⟩)] W fun e w' => e = .returned (.bool (P x)) ∧ Below W.heap.size W w') :
    Calls Tryz.prog 155 #[.slice a ss.length c, .func (.func 154) #[] #[.pointer (some ⟨pb, 0, none⟩), .pointer (some ⟨sb, 0, none⟩)]] w fun e w' => (∃ j : Int, e = .returned (.int .i64 j) ∧ (0 ≤ j ↔ ss.any P = true)) ∧ Below w.heap.size w w' := by
  have HS := Lib.hid hS; have HK := Lib.hid hK
  obtain ⟨m, hm⟩ : ∃ m, m = ss.length := ⟨_, rfl⟩
  rw [← hm] at hl ⊢
  have HM := Lib.hid hm
  clear hS hK hm
  go_enter Tryz.func155, Tryz.ntmps155
  go_wp2_with fail
  go_loopw [5, 8] (fun _ v8 wr => ∃ k : Nat, v8 = .int .i64 k ∧ k ≤ m ∧ (∀ x ∈ ss.take k, P x = false) ∧ Below w.heap.size w wr) (fun _ v8 _ => m - (intOf v8).toNat)
  case atStart => exact ⟨0, rfl, Nat.zero_le _, by simp, Below.refl _ _⟩
  case round =>
    obtain ⟨k, rfl, hk, hno, hB⟩ := hrel
    have HNO := Lib.hid hno; have HB := Lib.hid hB
    clear hno
    by_cases hkm : k < m
    · obtain ⟨x, hx⟩ := getElem?_of_lt (xs := ss) (i := k) (by rw [← HM.out]; exact hkm)
      have hsl := HS.out.below hB (Nat.le_refl _)
      obtain rfl := hsl.ad (by rw [← HM.out]; omega)
      have d0 := hsl.s0 hx; have d1 := hsl.s1 hx
      have dl := hsl.lt (by rw [← HM.out]; omega)
      have hkI : (k : Int) < (m : Int) := by omega
      have HX := Lib.hid hx
      have HC := Lib.hid (HK.out wr x hB (List.mem_of_getElem? hx))
      obtain ⟨r, hr⟩ : ∃ r, r = P x := ⟨_, rfl⟩
      rw [← hr] at HC
      have HR := Lib.hid hr
      clear hsl hx hr hB
      cases r
      · go_wp2_with fail
        refine HC.out.mono ?_
        rintro e w2 ⟨rfl, hB2⟩
        have HB2 := Lib.hid (HB.out.trans (hB2.mono HB.out.size))
        have HN2 : RowKit.Hid (∀ z ∈ ss.take (k + 1), P z = false) := Lib.hid (fun z hz => by
          rw [take_snoc HX.out] at hz
          rcases List.mem_append.1 hz with hz | hz
          · exact HNO.out z hz
          · simp at hz; subst hz; exact HR.out.symm)
        clear hB2 HC
        go_wp2_with fail
        go_roundw
        case rel => exact ⟨k + 1, by go_num, by omega, HN2.out, HB2.out⟩
        case measure => simp [intOf]; omega
      · go_wp2_with fail
        refine HC.out.mono ?_
        rintro e w2 ⟨rfl, hB2⟩
        have HB2 := Lib.hid (HB.out.trans (hB2.mono HB.out.size))
        have HF : RowKit.Hid (ss.any P = true) := Lib.hid (List.any_eq_true.2 ⟨x, List.mem_of_getElem? HX.out, HR.out.symm⟩)
        clear hB2 HC
        go_wp2_with fail
        go_ret
        exact ⟨⟨_, rfl, by simp [HF.out]⟩, HB2.out⟩
    · obtain rfl : k = m := by omega
      have HF : RowKit.Hid (ss.any P = false) := Lib.hid (by
        have h1 := HNO.out
        rw [HM.out, List.take_length] at h1
        rw [List.any_eq_false]
        intro x hx
        rw [h1 x hx]; simp)
      clear hB
      go_wp2_with fail
      go_ret
      exact ⟨⟨_, rfl, by simp [HF.out]⟩, HB.out⟩

set_option maxRecDepth 100000 in
set_option maxHeartbeats 1000000 in
theorem hasStep_any {w : World} {a : Option Addr} {b off c : Nat} {ss : List S} (hS : SlAt encS 2 w a b off ss) (hl : ss.length ≤ 1000000) {pb sb : Nat} {P : S → Bool}
    (hK : ∀ W x, Below w.heap.size w W → x ∈ ss → Calls Tryz.prog 154 #[.agg #[.int .i64 x.1, .int .i64 x.2], .pointer (some ⟨pb, 0, none⟩), .pointer (some ⟨sb, 0, none⟩)] W fun e w' => e = .returned (.bool (P x)) ∧ Below W.heap.size W w') :
    Calls Tryz.prog 153 #[.slice a ss.length c, .func (.func 154) #[] #[.pointer (some ⟨pb, 0, none⟩), .pointer (some ⟨sb, 0, none⟩)]] w fun e w' => e = .returned (.bool (ss.any P)) ∧ Below w.heap.size w w' := by
  have HI := Lib.hid (idxStep_any (c := c) hS hl hK)
  clear hS hK hl
  go_enter Tryz.func153, Tryz.ntmps153
  go_wp2_with fail
  refine HI.out.mono ?_
  rintro e w2 ⟨⟨j, rfl, hj⟩, hB⟩
  have HJ := Lib.hid hj; have HB := Lib.hid hB
  clear hj hB HI
  go_wp2_with fail
  go_ret
  refine ⟨?_, HB.out⟩
  have h := HJ.out
  cases hP : ss.any P with
  | true => simp [h.2 hP]
  | false =>
    have : ¬ 0 ≤ j := fun e => by rw [h.1 e] at hP; cases hP
    simp [this]

set_option maxRecDepth 100000 in
set_option maxHeartbeats 1000000 in
theorem pmeets_any {w0 w : World} {gb : Nat} {s : Lts} (h : GraphAt w0 gb s) (hB : Below w0.heap.size w0 w) {mb k : Nat} {Z : List (Int × Int)} (hM : OMap w mb encP2 okPr encU (addP Z) k) (q : Int) (x : S) (hx : (Lit.int .i64 x.2).wf = true) :
    Calls Tryz.prog 152 #[.agg #[.pointer (some ⟨gb, 0, none⟩), .map (some mb)], .int .i64 q, .agg #[.int .i64 x.1, .int .i64 x.2]] w fun e w' => e = .returned (.bool (meetsP s Z q x)) ∧ Below w.heap.size w w' := by
  obtain ⟨x1, x2⟩ := x
  have hb0 := ((Below.refl w.heap.size w).alloc (Nat.le_refl _) (.cells #[.pointer (some ⟨gb, 0, none⟩), .map (some mb)] 79)).alloc (by simp) (.cells #[.int .i64 x1, .int .i64 x2] 84)
  have HE := Lib.hid (each_any h (hB.trans (hb0.mono hB.size)) q)
  have hml := hM.lt
  have hsb := heap_alloc_at (w.alloc (.cells #[.pointer (some ⟨gb, 0, none⟩), .map (some mb)] 79)) (.cells #[.int .i64 x1, .int .i64 x2] 84) (w.heap.size + 1) (by simp)
  have hpb := (((Below.refl _ _).alloc (Nat.le_refl _) (.cells #[.int .i64 x1, .int .i64 x2] 84)).block w.heap.size (by simp)).trans (heap_alloc_new w (.cells #[.pointer (some ⟨gb, 0, none⟩), .map (some mb)] 79))
  have HB := Lib.hid hB; have HB0 := Lib.hid hb0; have HM := Lib.hid hM; have HSB := Lib.hid hsb; have HPB := Lib.hid hpb; have HX := Lib.hid hx; have HH := Lib.hid h
  clear h hB hM hb0 hsb hpb hx
  go_enter Tryz.func152, Tryz.ntmps152
  go_wp2_with fail
  refine (HE.out).mono ?_
  rintro e w2 ⟨⟨a2, c2, b2, off2, rfl, hc2, hm2, hss⟩, hB2⟩
  have hb2 := HB0.out.trans (hB2.mono (by simp; omega))
  have h1 := (hB2.block (w.heap.size + 1) (by simp)).trans HSB.out
  have h2 := (hB2.block w.heap.size (by simp; omega)).trans HPB.out
  have hm2 := HM.out.of_block (hb2.block mb hml)
  have hs2 := hss.below (HB.out.trans (hb2.mono HB.out.size)) (Nat.le_refl _)
  have hol := outs_len HH.out.right q
  have hcl : RowKit.Hid (∀ W (y : S), Below w2.heap.size w2 W → y ∈ s.outs q → Calls Tryz.prog 154 #[.agg #[.int .i64 y.1, .int .i64 y.2], .pointer (some ⟨w.heap.size, 0, none⟩), .pointer (some ⟨w.heap.size + 1, 0, none⟩)] W fun e w' => e = .returned (.bool (decide ((x2, y.2) ∈ Z) && decide (y.1 = x1))) ∧ Below W.heap.size W w') := Lib.hid (fun W y hW hy => by
    have e1 := (hW.block (w.heap.size + 1) (Array.getElem?_eq_some_iff.1 h1).1).trans h1
    have e2 := (hW.block w.heap.size (Array.getElem?_eq_some_iff.1 h2).1).trans h2
    have hyr := offB_false.1 (HH.out.right.edges _ (mem_outs.1 hy))
    have hst := HH.out.right.st0
    exact pairFn_any (by simp [World.cell?, e2]) (by simp [World.cell?, e1]) (by simp [World.cell?, e1]) (hm2.of_block (hW.block mb hm2.lt)) y ⟨HX.out, WalkArith.wf_i64 (by simp only at hyr; omega)⟩)
  have HC := Lib.hid (hasStep_any (c := c2) hs2 (by omega) hcl.out)
  have HBB := Lib.hid hb2
  clear hss hB2 hb2 h1 h2 hm2 hs2 hcl hol HE
  go_wp2_with fail
  refine HC.out.mono ?_
  rintro e w3 ⟨rfl, hB3⟩
  have HB3 := Lib.hid (HBB.out.trans (hB3.mono HBB.out.size))
  clear hB3
  go_wp2_with fail
  go_ret
  exact ⟨rfl, HB3.out⟩
end Go.Proofs.YtclannenknhfpaaGreatDoor

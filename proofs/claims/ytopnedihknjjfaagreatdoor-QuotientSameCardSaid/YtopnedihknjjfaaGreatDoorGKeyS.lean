/-
  Maps keyed by api.Step: how the keys read.
  Maps keyed by edges, by numbers: how the keys read; rows beside a map that grows.
  Plain: steps met by classes, as a loop tells it; a system with other numbers; edges in another order; logarithms.
-/
import Derived.Test.YtopnedihknjjfaaGreatDoorGBase
import Derived.Test.YtopnedihknjjfaaGreatDoorOMap
import Derived.Lib.SmallJoins
import Derived.MapViews
import Derived.Test.YtopnedihknjjfaaGreatDoorRws
import Derived.Test.YtopnedihknjjfaaGreatDoorGStrK
import Derived.Test.YtopnedihknjjfaaGreatDoorGPl11
namespace Go.Proofs.YtopnedihknjjfaaGreatDoor
open Go.RowKit Go.ChangeShapes Pl

def encSv (x : S) : Value := .agg #[.int .i64 x.1, .int .i64 x.2]
def okS (x : S) : Prop := (Lit.int .i64 x.1).wf = true ∧ (Lit.int .i64 x.2).wf = true

theorem laidOutK : laidOutB Tryz.prog = true := by kernel_rfl
theorem rowStep : (46 : TypeId) < Tryz.prog.types.size := of_decide_eq_true (by kernel_rfl)
theorem wideStep : (match Tryz.prog.underlying 46 with | some (.array _ _) | some (.struct _) => true | _ => false) = true := by rw [Tryz.underlying46]
set_option maxRecDepth 100000 in
theorem lawStep : Go.WideMaps.KeyLaw Tryz.prog 46 := deep_law_laid laidOutK (m := 2) (by omega) rowStep (by kernel_rfl) wideStep
theorem deepStep : Tryz.prog.keyTypeAt (Tryz.prog.types.size + 1) 46 = true := by kernel_rfl
theorem cellsStep : Tryz.prog.cellsOf 46 = 2 := by kernel_rfl
theorem formedStep (c0 c1 : Value) : (Value.agg #[c0, c1]).formed Tryz.prog 46 = true := by simp [Value.formed, Tryz.underlying46, cellsStep]

set_option maxRecDepth 100000 in
theorem keyStep (x : S) (h : okS x) : ∃ l, keyOf Tryz.prog 46 (encSv x) = some l := by
  have t0 := shut_int (H := Unit) (enc := fun _ => ()) (P := Tryz.prog) (w := default) (base := 0) (spare := fun _ => true) (held := true) Tryz.underlying3 h.1
  have t1 := shut_int (H := Unit) (enc := fun _ => ()) (P := Tryz.prog) (w := default) (base := 0) (spare := fun _ => true) (held := true) Tryz.underlying3 h.2
  have h2 := Go.Joins.shut_agg2 (y0 := (.lit (.int .i64 x.1), [])) (y1 := (.lit (.int .i64 x.2), [])) Tryz.underlying46 (by kernel_rfl) cellsStep t0 t1
  exact ⟨_, (keyOf_asKey deepStep wideStep (formedStep _ _) h2).1⟩

theorem encStep : KeyEnc Tryz.prog 46 encSv okS where
  K := Go.Maps.Keyed.of_law lawStep
  key := keyStep
  inj x y h := by
    obtain ⟨x1, x2⟩ := x; obtain ⟨y1, y2⟩ := y
    unfold encSv at h
    simp only [Value.agg.injEq, Array.mk.injEq, List.cons.injEq, Value.int.injEq, true_and, and_true] at h
    rw [h.1, h.2]

def encU (_ : Unit) : Value := .agg #[]
theorem zeroUnit (w : World) : (zeroValue 99).run Tryz.prog w = .ok (.agg #[]) w := by kernel_rfl
end Go.Proofs.YtopnedihknjjfaaGreatDoor

namespace Go.Proofs.YtopnedihknjjfaaGreatDoor
open Go.RowKit Go.ChangeShapes Pl

def encEv (x : E) : Value := .agg #[.int .i64 x.1, .int .i64 x.2.1, .int .i64 x.2.2]
def okE (x : E) : Prop := (Lit.int .i64 x.1).wf = true ∧ (Lit.int .i64 x.2.1).wf = true ∧ (Lit.int .i64 x.2.2).wf = true
theorem rowEdg : (36 : TypeId) < Tryz.prog.types.size := of_decide_eq_true (by kernel_rfl)
theorem wideEdg : (match Tryz.prog.underlying 36 with | some (.array _ _) | some (.struct _) => true | _ => false) = true := by rw [Tryz.underlying36]
set_option maxRecDepth 100000 in
theorem lawEdg : Go.WideMaps.KeyLaw Tryz.prog 36 := deep_law_laid laidOutK (m := 2) (by omega) rowEdg (by kernel_rfl) wideEdg
theorem deepEdg : Tryz.prog.keyTypeAt (Tryz.prog.types.size + 1) 36 = true := by kernel_rfl
theorem cellsEdg : Tryz.prog.cellsOf 36 = 3 := by kernel_rfl
theorem formedEdg (c0 c1 c2 : Value) : (Value.agg #[c0, c1, c2]).formed Tryz.prog 36 = true := by simp [Value.formed, Tryz.underlying36, cellsEdg]
set_option maxRecDepth 100000 in
theorem keyEdg (x : E) (h : okE x) : ∃ l, keyOf Tryz.prog 36 (encEv x) = some l := by
  have t0 := shut_int (H := Unit) (enc := fun _ => ()) (P := Tryz.prog) (w := default) (base := 0) (spare := fun _ => true) (held := true) Tryz.underlying3 h.1
  have t1 := shut_int (H := Unit) (enc := fun _ => ()) (P := Tryz.prog) (w := default) (base := 0) (spare := fun _ => true) (held := true) Tryz.underlying3 h.2.1
  have t2 := shut_int (H := Unit) (enc := fun _ => ()) (P := Tryz.prog) (w := default) (base := 0) (spare := fun _ => true) (held := true) Tryz.underlying3 h.2.2
  have h2 := Go.Joins.shut_agg3 (y0 := (.lit (.int .i64 x.1), [])) (y1 := (.lit (.int .i64 x.2.1), [])) (y2 := (.lit (.int .i64 x.2.2), [])) Tryz.underlying36 (by kernel_rfl) cellsEdg t0 t1 t2
  exact ⟨_, (keyOf_asKey deepEdg wideEdg (formedEdg _ _ _) h2).1⟩
theorem encEdg : KeyEnc Tryz.prog 36 encEv okE where
  K := Go.Maps.Keyed.of_law lawEdg
  key := keyEdg
  inj x y h := by
    obtain ⟨x1, x2, x3⟩ := x; obtain ⟨y1, y2, y3⟩ := y
    unfold encEv at h
    simp only [Value.agg.injEq, Array.mk.injEq, List.cons.injEq, Value.int.injEq, true_and, and_true] at h
    rw [h.1, h.2.1, h.2.2]
def encNv (x : Int) : Value := .int .i64 x
def okN (x : Int) : Prop := (Lit.int .i64 x).wf = true
theorem encNum : KeyEnc Tryz.prog 3 encNv okN where
  K := Go.Maps.int_keyed Tryz.underlying3
  key x h := ⟨_, Go.Maps.keyOf_int_mk Tryz.underlying3 h⟩
  inj x y h := by unfold encNv at h; simpa using h
theorem zeroNum (w : World) : (zeroValue 3).run Tryz.prog w = .ok (.int .i64 0) w := by kernel_rfl

/-- Rows stay where a map grows. -/
theorem Rws.mapPut {w0 w w' : World} {L : List Rw} {mb : Nat} (h : Rws w0 w L) (hg : w.grownBy w' (some mb)) (hm : ∃ es c, w.heap[mb]? = some (.map es c)) (hlo : w0.heap.size ≤ mb) : Rws w0 w' L := by
  refine ⟨h.bel.grown hg h.bel.size (fun k hk => by cases hk; exact hlo), fun r hr => own_blockR (h.own r hr) (fun g hgb => ?_), h.apart⟩
  have h1 := (h.own r hr).lt g hgb
  refine hg.block g h1.2 (fun e => ?_)
  obtain ⟨es, c, h2⟩ := hm
  obtain rfl := Option.some.inj e
  rcases (h.own r hr).2 with ⟨h3, _⟩ | ⟨g2, cap, cur, h3, _, h4, _⟩
  · rw [h3] at hgb; cases hgb
  · rw [h3] at hgb
    obtain rfl := Option.some.inj hgb
    rw [h2] at h4; cases h4
end Go.Proofs.YtopnedihknjjfaaGreatDoor

namespace Go.Proofs.YtopnedihknjjfaaGreatDoor
open Go.RowKit Pl

theorem atLF {n : Nat} {f : Nat → Int} {t : Nat} (h : t < n) : atL (fl n f) (t : Int) = f t := by
  unfold atL
  rw [Int.toNat_natCast, List.getD_eq_getElem?_getD, fl_get f h]; rfl

/-- Each step of p is met by one of q, as the law tells it. -/
def metX (s : Lts) (L : List Int) (q : Int) (x : S) : Bool := (withL x.1 (s.outs q)).any (fun y => decide (atL L y = atL L x.2))
def metB (s : Lts) (L : List Int) (p q : Int) : Bool := (s.outs p).all (metX s L q)

theorem metB_iff {s : Lts} (hr : s.Right) {n : Nat} (hn : s.st = (n : Int)) {D : Nat → Int} {p q : Nat} : metB s (fl n D) (p : Int) (q : Int) = true ↔ MetP s n D p q := by
  unfold metB metX MetP
  rw [List.all_eq_true]
  constructor
  · intro h l t ht hs
    have h1 := h (l, (t : Int)) (mem_outs.2 hs)
    rw [List.any_eq_true] at h1
    obtain ⟨y, hy, h2⟩ := h1
    rw [mem_withL] at hy
    have h3 := mem_outs.1 hy
    have h4 := offB_false.1 (hr.edges _ h3)
    simp only at h4
    obtain ⟨u, rfl⟩ := Int.eq_ofNat_of_zero_le h4.2.2.2.2.1
    have hu : u < n := by omega
    rw [decide_eq_true_eq, atLF hu, atLF ht] at h2
    exact ⟨u, hu, h3, h2⟩
  · rintro h ⟨l, y⟩ hx
    have h3 := mem_outs.1 hx
    have h4 := offB_false.1 (hr.edges _ h3)
    simp only at h4
    obtain ⟨t, rfl⟩ := Int.eq_ofNat_of_zero_le h4.2.2.2.2.1
    have ht : t < n := by omega
    obtain ⟨u, hu, h1, h2⟩ := h l t ht h3
    rw [List.any_eq_true]
    exact ⟨(u : Int), mem_withL.2 (mem_outs.2 h1), by rw [decide_eq_true_eq]; simp only; rw [atLF hu, atLF ht]; exact h2⟩

/-! other numbers -/
def rotI (n k x : Int) : Int := (x + k) % n
def rotE (n k : Int) (e : E) : E := (rotI n k e.1, e.2.1, rotI n k e.2.2)
def rotS (s : Lts) (k : Int) : Lts := ⟨s.st, s.lb, rotI s.st k s.s0, s.es.map (rotE s.st k)⟩
def rotN (n k p : Nat) : Nat := (p + k) % n
theorem rotN_lt {n k p : Nat} (hn : 0 < n) : rotN n k p < n := Nat.mod_lt _ hn
theorem rotN_cast (n k p : Nat) : rotI (n : Int) (k : Int) (p : Int) = ((rotN n k p : Nat) : Int) := by
  unfold rotI rotN
  rw [← Int.natCast_add, ← Int.natCast_emod]
theorem rot_back {n k p : Nat} (hk : k < n) (hp : p < n) : rotN n (n - k) (rotN n k p) = p := by
  unfold rotN
  rcases Nat.lt_or_ge (p + k) n with h | h
  · rw [Nat.mod_eq_of_lt h]
    rw [show p + k + (n - k) = p + n by omega, Nat.add_mod_right, Nat.mod_eq_of_lt hp]
  · rw [Nat.mod_eq_sub_mod h, Nat.mod_eq_of_lt (show p + k - n < n by omega), show p + k - n + (n - k) = p by omega, Nat.mod_eq_of_lt hp]
theorem rot_forth {n k p : Nat} (hk : k < n) (hp : p < n) : rotN n k (rotN n (n - k) p) = p := by
  unfold rotN
  rcases Nat.lt_or_ge (p + (n - k)) n with h | h
  · rw [Nat.mod_eq_of_lt h]
    rw [show p + (n - k) + k = p + n by omega, Nat.add_mod_right, Nat.mod_eq_of_lt hp]
  · rw [Nat.mod_eq_sub_mod h, Nat.mod_eq_of_lt (show p + (n - k) - n < n by omega), show p + (n - k) - n + k = p by omega, Nat.mod_eq_of_lt hp]
theorem rot_right {s : Lts} (hr : s.Right) {n k : Nat} (hn : s.st = (n : Int)) (hn0 : 0 < n) : (rotS s (k : Int)).Right := by
  have h0 := hr.st0
  have key : ∀ x : Int, 0 ≤ rotI s.st k x ∧ rotI s.st k x < s.st := fun x => by
    unfold rotI
    exact ⟨Int.emod_nonneg _ (by omega), Int.emod_lt_of_pos _ (by omega)⟩
  have hh := hr.head
  refine ⟨?_, ?_⟩
  · have k1 := key s.s0
    unfold HeadBad at hh ⊢
    simp only [rotS, List.length_map] at *
    omega
  · intro x hx
    obtain ⟨e, he, rfl⟩ := List.mem_map.1 hx
    have h1 := offB_false.1 (hr.edges _ he)
    have k1 := key e.1; have k2 := key e.2.2
    rw [offB_false]
    simp only [rotS, rotE]
    omega
theorem rot_stp {s : Lts} (hr : s.Right) {n k : Nat} (hn : s.st = (n : Int)) (hk : k < n) {p u : Nat} {l : Int} (hp : p < n) (hu : u < n) : stp s p l u ↔ stp (rotS s (k : Int)) (rotN n k p) l (rotN n k u) := by
  unfold stp rotS
  simp only
  constructor
  · intro h
    refine List.mem_map.2 ⟨_, h, ?_⟩
    unfold rotE
    simp only
    rw [hn, rotN_cast, rotN_cast]
  · intro h
    obtain ⟨e, he, h2⟩ := List.mem_map.1 h
    have h1 := offB_false.1 (hr.edges _ he)
    obtain ⟨e1, e2, e3⟩ := e
    simp only at h1
    obtain ⟨a, rfl⟩ := Int.eq_ofNat_of_zero_le h1.1
    obtain ⟨b, rfl⟩ := Int.eq_ofNat_of_zero_le h1.2.2.2.2.1
    unfold rotE at h2
    simp only [hn, Prod.mk.injEq] at h2
    rw [rotN_cast, rotN_cast] at h2
    have ha : a < n := by omega
    have hb : b < n := by omega
    have e1 : a = p := by rw [← rot_back hk ha, ← rot_back hk hp, show rotN n k a = rotN n k p by omega]
    have e3 : b = u := by rw [← rot_back hk hb, ← rot_back hk hu, show rotN n k b = rotN n k u by omega]
    obtain ⟨_, rfl, _⟩ := h2
    subst e1 e3
    exact he
/-- The classes of the system with other numbers. -/
theorem rot_big {s : Lts} (hr : s.Right) {n k : Nat} (hn : s.st = (n : Int)) (hk : k < n) {C D : Nat → Int} (h : Big s n C) (h' : Big (rotS s (k : Int)) n D) {p q : Nat} (hp : p < n) (hq : q < n) : C p = C q ↔ D (rotN n k p) = D (rotN n k q) :=
  h.iso (f := rotN n k) (g := rotN n (n - k)) h' (fun p hp => ⟨rotN_lt (by omega), rot_back hk hp⟩) (fun p hp => ⟨rotN_lt (by omega), rot_forth hk hp⟩) (fun _ _ _ hp hu => rot_stp hr hn hk hp hu) hp hq

/-! edges in another order -/
def turnE (es : List E) (k : Nat) : List E := es.drop k ++ es.take k ++ (es[k]?).toList
def turnS (s : Lts) (k : Nat) : Lts := ⟨s.st, s.lb, (s.s0 + 1) % s.st, turnE s.es k⟩
theorem mem_turnE {es : List E} {k : Nat} {e : E} : e ∈ turnE es k ↔ e ∈ es := by
  unfold turnE
  rw [List.mem_append, List.mem_append]
  constructor
  · rintro ((h | h) | h)
    · exact List.mem_of_mem_drop h
    · exact List.mem_of_mem_take h
    · rw [Option.mem_toList] at h
      exact List.mem_of_getElem? h
  · intro h
    rw [← List.take_append_drop k es, List.mem_append] at h
    exact .inl h.symm
theorem turnE_len {es : List E} {k : Nat} (h : k < es.length) : (turnE es k).length = es.length + 1 := by
  unfold turnE
  rw [List.length_append, List.length_append, List.length_drop, List.length_take, List.getElem?_eq_getElem h]
  simp; omega
theorem turn_right {s : Lts} (hr : s.Right) {k : Nat} (hk : k < s.es.length) (h0 : 0 < s.st) (hl : s.es.length ≤ 600) : (turnS s k).Right := by
  have hh := hr.head
  have h1 := Int.emod_nonneg (s.s0 + 1) (show s.st ≠ 0 by omega)
  have h2 := Int.emod_lt_of_pos (s.s0 + 1) h0
  refine ⟨?_, ?_⟩
  · unfold HeadBad at hh ⊢
    simp only [turnS, turnE_len hk] at *
    omega
  · intro x hx
    exact hr.edges x (mem_turnE.1 hx)
theorem turn_canon {s : Lts} {n k : Nat} {C D : Nat → Int} (h : Big s n C) (h' : Big (turnS s k) n D) : canon (fl n C) = canon (fl n D) :=
  (h.steps (s' := turnS s k) (fun _ _ _ _ _ => (mem_turnE (k := k)).symm)).uniq h'

/-! logarithms -/
structure LogI (n m c : Nat) : Prop where
  m1 : 1 ≤ m
  lo : 2 ^ (m - 1) * c ≤ n
  hi : n < 2 ^ (m - 1) * (c + 1)
theorem LogI.start (n : Nat) : LogI n 1 n := ⟨Nat.le_refl _, by simp, by simp⟩
theorem LogI.step {n m c : Nat} (h : LogI n m c) : LogI n (m + 1) (c / 2) := by
  have e : 2 ^ (m + 1 - 1) = 2 ^ (m - 1) * 2 := by rw [← Nat.pow_succ]; congr 1; have := h.m1; omega
  refine ⟨by omega, ?_, ?_⟩
  · rw [e, Nat.mul_assoc]
    exact Nat.le_trans (Nat.mul_le_mul_left _ (by omega)) h.lo
  · rw [e, Nat.mul_assoc]
    exact Nat.lt_of_lt_of_le h.hi (Nat.mul_le_mul_left _ (by omega))
theorem LogI.small {n m c : Nat} (h : LogI n m c) (hc : 1 ≤ c) : m ≤ n := by
  have h1 := h.lo
  have h2 : m - 1 < 2 ^ (m - 1) := Nat.lt_two_pow_self
  have h3 : 2 ^ (m - 1) * 1 ≤ 2 ^ (m - 1) * c := Nat.mul_le_mul_left _ hc
  omega
theorem LogI.done {n m c g : Nat} (h : LogI n m c) (hc : c ≤ 1) (hg : 2 ^ (g - 1) ≤ n) : g ≤ m := by
  apply Classical.byContradiction
  intro hlt
  have h1 : 2 ^ m ≤ 2 ^ (g - 1) := Nat.pow_le_pow_right (by omega) (by omega)
  have h2 : 2 ^ m = 2 ^ (m - 1) * 2 := by rw [← Nat.pow_succ]; congr 1; have := h.m1; omega
  have h3 : 2 ^ (m - 1) * (c + 1) ≤ 2 ^ (m - 1) * 2 := Nat.mul_le_mul_left _ (by omega)
  have h4 := h.hi
  omega
end Go.Proofs.YtopnedihknjjfaaGreatDoor

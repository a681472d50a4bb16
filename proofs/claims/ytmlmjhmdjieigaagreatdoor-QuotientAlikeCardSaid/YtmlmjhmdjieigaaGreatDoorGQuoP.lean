/-
  Plain: systems that are strongly bisimilar, unions, quotients.
  system.Graph.Reach: the reachable states, rising.
-/
import Derived.Test.YtmlmjhmdjieigaaGreatDoorGStrL
import Derived.Test.YtmlmjhmdjieigaaGreatDoorGPl1
import Derived.Test.YtmlmjhmdjieigaaGreatDoorGNew
import Derived.Test.YtmlmjhmdjieigaaGreatDoorGOrder
import Derived.Deep.DeepMust
namespace Go.Proofs.YtmlmjhmdjieigaaGreatDoor
open Go.RowKit Pl

/-- A bisimulation between two systems. -/
structure Bis2 (s : Lts) (n : Nat) (t : Lts) (m : Nat) (R : Nat → Nat → Prop) : Prop where
  fwd : ∀ p q, p < n → q < m → R p q → ∀ l p', p' < n → stp s p l p' → ∃ q', q' < m ∧ stp t q l q' ∧ R p' q'
  bwd : ∀ p q, p < n → q < m → R p q → ∀ l q', q' < m → stp t q l q' → ∃ p', p' < n ∧ stp s p l p' ∧ R p' q'
def Eqv (s : Lts) (n p : Nat) (t : Lts) (m q : Nat) : Prop := ∃ R, Bis2 s n t m R ∧ R p q
theorem Eqv.symm {s t : Lts} {n p m q : Nat} (h : Eqv s n p t m q) : Eqv t m q s n p := by
  obtain ⟨R, h1, h2⟩ := h
  exact ⟨fun a b => R b a, ⟨fun p q hp hq hr l p' hp' hs => h1.bwd q p hq hp hr l p' hp' hs, fun p q hp hq hr l q' hq' hs => h1.fwd q p hq hp hr l q' hq' hs⟩, h2⟩
theorem Eqv.trans {s t u : Lts} {n p m q k r : Nat} (h : Eqv s n p t m q) (h' : Eqv t m q u k r) (hq : q < m) : Eqv s n p u k r := by
  obtain ⟨R, h1, h2⟩ := h
  obtain ⟨Q, h3, h4⟩ := h'
  refine ⟨fun a b => ∃ c, c < m ∧ R a c ∧ Q c b, ⟨?_, ?_⟩, q, hq, h2, h4⟩
  · rintro a b ha hb ⟨c, hc, e1, e2⟩ l a' ha' hs
    obtain ⟨c', hc', s1, e3⟩ := h1.fwd a c ha hc e1 l a' ha' hs
    obtain ⟨b', hb', s2, e4⟩ := h3.fwd c b hc hb e2 l c' hc' s1
    exact ⟨b', hb', s2, c', hc', e3, e4⟩
  · rintro a b ha hb ⟨c, hc, e1, e2⟩ l b' hb' hs
    obtain ⟨c', hc', s1, e3⟩ := h3.bwd c b hc hb e2 l b' hb' hs
    obtain ⟨a', ha', s2, e4⟩ := h1.bwd a c ha hc e1 l c' hc' s1
    exact ⟨a', ha', s2, c', hc', e4, e3⟩

/-! unions -/
def shE (n : Int) (e : E) : E := (e.1 + n, e.2.1, e.2.2 + n)
def uniS (s t : Lts) : Lts := ⟨s.st + t.st, max s.lb t.lb, if s.st = 0 then t.s0 else s.s0, s.es ++ t.es.map (shE s.st)⟩
theorem uni_left {s t : Lts} (hr' : t.Right) {n : Nat} (hn : s.st = (n : Int)) {p x : Nat} {l : Int} (hp : p < n) : stp (uniS s t) p l x ↔ stp s p l x := by
  unfold stp uniS
  simp only [List.mem_append, List.mem_map]
  constructor
  · rintro (h | ⟨e, he, h⟩)
    · exact h
    · have := offB_false.1 (hr'.edges _ he)
      unfold shE at h
      simp only [Prod.mk.injEq] at h
      omega
  · intro h; exact .inl h
theorem uni_right {s t : Lts} (hr : s.Right) (hr' : t.Right) {n : Nat} (hn : s.st = (n : Int)) {q x : Nat} {l : Int} : stp (uniS s t) (n + q) l x ↔ ∃ y : Nat, x = n + y ∧ stp t q l y := by
  unfold stp uniS
  simp only [List.mem_append, List.mem_map]
  constructor
  · rintro (h | ⟨e, he, h⟩)
    · have := offB_false.1 (hr.edges _ h)
      simp only at this
      omega
    · have h1 := offB_false.1 (hr'.edges _ he)
      unfold shE at h
      obtain ⟨e1, e2, e3⟩ := e
      simp only [Prod.mk.injEq] at h h1
      obtain ⟨g1, rfl, g3⟩ := h
      have k1 : e1 = (q : Int) := by omega
      obtain ⟨y, rfl⟩ := Int.eq_ofNat_of_zero_le h1.2.2.2.2.1
      subst k1
      exact ⟨y, by omega, he⟩
  · rintro ⟨y, rfl, h⟩
    exact .inr ⟨_, h, Prod.ext (by show (q : Int) + s.st = ((n + q : Nat) : Int); omega) (Prod.ext rfl (by show (y : Int) + s.st = ((n + y : Nat) : Int); omega))⟩
theorem uni_Right {s t : Lts} (hr : s.Right) (hr' : t.Right) (h1 : s.st + t.st ≤ 1000) (h2 : s.es.length + t.es.length ≤ 10000) : (uniS s t).Right := by
  have a := hr.st0; have b := hr'.st0
  have hh := hr.head; have hh' := hr'.head
  refine ⟨?_, fun x hx => ?_⟩
  · unfold HeadBad uniS at *
    simp only [List.length_append, List.length_map] at *
    split <;> omega
  · unfold uniS at hx
    simp only [List.mem_append, List.mem_map] at hx
    rw [offB_false]
    unfold uniS
    simp only
    rcases hx with h | ⟨e, he, rfl⟩
    · have := offB_false.1 (hr.edges _ h); omega
    · have := offB_false.1 (hr'.edges _ he)
      unfold shE
      simp only
      omega
/-- The classes of the union. -/
theorem uni_big {s t : Lts} (hr : s.Right) (hr' : t.Right) {n m : Nat} (hn : s.st = (n : Int)) {C : Nat → Int} (h : Big (uniS s t) (n + m) C) {p q : Nat} (hp : p < n) (hq : q < m) : C p = C (n + q) ↔ Eqv s n p t m q := by
  constructor
  · intro e
    refine ⟨fun a b => C a = C (n + b), ⟨?_, ?_⟩, e⟩
    · intro a b ha hb hab l a' ha' hs
      obtain ⟨u, hu, h1, h2⟩ := (h.bis a (n + b) (by omega) (by omega) hab).1 l a' (by omega) ((uni_left hr' hn ha).2 hs)
      obtain ⟨y, rfl, h3⟩ := (uni_right hr hr' hn).1 h1
      exact ⟨y, by omega, h3, h2⟩
    · intro a b ha hb hab l b' hb' hs
      obtain ⟨u, hu, h1, h2⟩ := (h.bis a (n + b) (by omega) (by omega) hab).2 l (n + b') (by omega) ((uni_right hr hr' hn).2 ⟨b', rfl, hs⟩)
      have h3 := (uni_left hr' hn ha).1 h1
      have h4 := offB_false.1 (hr.edges _ h3)
      simp only at h4
      exact ⟨u, by omega, h3, h2⟩
  · rintro ⟨R, h1, h2⟩
    refine h.all (fun x y => (x < n ∧ ∃ b, y = n + b ∧ R x b) ∨ (y < n ∧ ∃ b, x = n + b ∧ R y b)) (fun x y hx hy hxy => ?_) p (n + q) (by omega) (by omega) (.inl ⟨hp, q, rfl, h2⟩)
    rcases hxy with ⟨hxn, b, rfl, hr1⟩ | ⟨hyn, b, rfl, hr1⟩
    · refine ⟨fun l x' hx' hs => ?_, fun l y' hy' hs => ?_⟩
      · have h3 := (uni_left hr' hn hxn).1 hs
        have h4 := offB_false.1 (hr.edges _ h3)
        simp only at h4
        obtain ⟨b', hb', s1, e1⟩ := h1.fwd x b hxn (by omega) hr1 l x' (by omega) h3
        exact ⟨n + b', by omega, (uni_right hr hr' hn).2 ⟨b', rfl, s1⟩, .inl ⟨by omega, b', rfl, e1⟩⟩
      · obtain ⟨b', rfl, h3⟩ := (uni_right hr hr' hn).1 hs
        obtain ⟨x', hx', s1, e1⟩ := h1.bwd x b hxn (by omega) hr1 l b' (by omega) h3
        exact ⟨x', by omega, (uni_left hr' hn hxn).2 s1, .inl ⟨hx', b', rfl, e1⟩⟩
    · refine ⟨fun l x' hx' hs => ?_, fun l y' hy' hs => ?_⟩
      · obtain ⟨b', rfl, h3⟩ := (uni_right hr hr' hn).1 hs
        obtain ⟨y', hy', s1, e1⟩ := h1.bwd y b hyn (by omega) hr1 l b' (by omega) h3
        exact ⟨y', by omega, (uni_left hr' hn hyn).2 s1, .inr ⟨hy', b', rfl, e1⟩⟩
      · have h3 := (uni_left hr' hn hyn).1 hs
        have h4 := offB_false.1 (hr.edges _ h3)
        simp only at h4
        obtain ⟨b', hb', s1, e1⟩ := h1.fwd y b hyn (by omega) hr1 l y' (by omega) h3
        exact ⟨n + b', by omega, (uni_right hr hr' hn).2 ⟨b', rfl, s1⟩, .inr ⟨by omega, b', rfl, e1⟩⟩

/-! quotients -/
def clsL (L : List Int) (P : List Int) : List Int := dist (P.map (atL L))
def toI (D : List Int) (c : Int) : Int := if c ∈ D then (D.idxOf c : Int) else -1
def quoE (s : Lts) (L D P : List Int) : List E := P.flatMap (fun p => (s.outs p).map (fun x => (toI D (atL L p), x.1, toI D (atL L x.2))))
noncomputable def quoD (s : Lts) (L : List Int) : List Int := clsL L (reachL s)
noncomputable def quoS (s : Lts) (L : List Int) : Lts := ⟨((quoD s L).length : Int), s.lb, toI (quoD s L) (atL L s.s0), nf ltE (quoE s L (quoD s L) (reachL s))⟩
theorem mem_clsL {L P : List Int} {c : Int} : c ∈ clsL L P ↔ ∃ p ∈ P, atL L p = c := by
  unfold clsL
  rw [mem_dist, List.mem_map]
theorem toI_in {D : List Int} {c : Int} (h : c ∈ D) : toI D c = (D.idxOf c : Int) ∧ D.idxOf c < D.length := by
  unfold toI
  rw [if_pos h]
  exact ⟨rfl, List.idxOf_lt_length_of_mem h⟩
theorem toI_inj {D : List Int} {c d : Int} (h : c ∈ D) (h' : d ∈ D) (e : toI D c = toI D d) : c = d := by
  rw [(toI_in h).1, (toI_in h').1] at e
  exact idx_inj h h' (by omega)
theorem mem_quoE {s : Lts} {L D P : List Int} {e : E} : e ∈ quoE s L D P ↔ ∃ p ∈ P, ∃ l y, (p, l, y) ∈ s.es ∧ e = (toI D (atL L p), l, toI D (atL L y)) := by
  unfold quoE
  rw [List.mem_flatMap]
  constructor
  · rintro ⟨p, hp, h⟩
    obtain ⟨x, hx, rfl⟩ := List.mem_map.1 h
    exact ⟨p, hp, x.1, x.2, mem_outs.1 hx, rfl⟩
  · rintro ⟨p, hp, l, y, h, rfl⟩
    exact ⟨p, hp, List.mem_map.2 ⟨(l, y), mem_outs.2 h, rfl⟩⟩

section
variable {s : Lts} {n z : Nat} {C : Nat → Int}
theorem quo_rng (hr : s.Right) (hn : s.st = (n : Int)) (hn0 : 0 < n) {x : Int} (h : x ∈ reachL s) : ∃ p : Nat, x = (p : Int) ∧ p < n ∧ Rch s (p : Int) := by
  have h1 := (mem_reachL hr (by omega)).1 h
  have h2 := h1.rng hr (by omega)
  obtain ⟨p, rfl⟩ := Int.eq_ofNat_of_zero_le h2.1
  exact ⟨p, rfl, by omega, h1⟩
theorem quo_start (hr : s.Right) (hn : s.st = (n : Int)) (hn0 : 0 < n) : s.s0 ∈ reachL s := (mem_reachL hr (by omega)).2 (Rch.start s)
theorem quo_in {L : List Int} {x : Int} (h : x ∈ reachL s) : atL L x ∈ quoD s L := mem_clsL.2 ⟨x, h, rfl⟩
theorem quo_step (hr : s.Right) (hn : s.st = (n : Int)) (hn0 : 0 < n) {p l y : Int} (hp : p ∈ reachL s) (h : (p, l, y) ∈ s.es) : y ∈ reachL s :=
  (mem_reachL hr (by omega)).2 (((mem_reachL hr (by omega)).1 hp).step h)
theorem quo_Right (hr : s.Right) (hn : s.st = (n : Int)) (hn0 : 0 < n) (L : List Int) (hl : (quoE s L (quoD s L) (reachL s)).length ≤ 10000) : (quoS s L).Right ∧ (quoS s L).st ≤ (n : Int) ∧ 0 < (quoS s L).st := by
  have h0 := hr.st0
  have h1 := quo_in (L := L) (quo_start hr hn hn0)
  have h2 := toI_in h1
  have h3 : (quoD s L).length ≤ n := by
    unfold quoD clsL
    have a := dist_len ((reachL s).map (atL L))
    have b := reachL_len (s := s)
    rw [List.length_map] at a
    omega
  refine ⟨⟨?_, fun x hx => ?_⟩, by unfold quoS; simp only; omega, by unfold quoS; simp only; omega⟩
  · have hll := length_nf (lt := ltE) (quoE s L (quoD s L) (reachL s))
    unfold HeadBad quoS
    simp only
    omega
  · have hm := (mem_nf stoE _ _).1 hx
    obtain ⟨p, hp, l, y, hs, rfl⟩ := mem_quoE.1 hm
    have k1 := toI_in (quo_in (L := L) hp)
    have k2 := toI_in (quo_in (L := L) (quo_step hr hn hn0 hp hs))
    have k3 := offB_false.1 (hr.edges _ hs)
    rw [offB_false]
    unfold quoS
    simp only at k3 ⊢
    omega
/-- A system is its quotient's like. -/
theorem quo_eqv (hr : s.Right) (hn : s.st = (n : Int)) (hn0 : 0 < n) (hz : s.s0 = (z : Int)) (h : Big s n C) : ∃ z' : Nat, (quoS s (fl n C)).s0 = (z' : Int) ∧ z' < (quoD s (fl n C)).length ∧ Eqv s n z (quoS s (fl n C)) (quoD s (fl n C)).length z' := by
  have hstart := quo_start hr hn hn0
  have h1 := toI_in (quo_in (L := fl n C) hstart)
  refine ⟨_, h1.1, h1.2, fun p i => (p : Int) ∈ reachL s ∧ toI (quoD s (fl n C)) (C p) = (i : Int), ⟨?_, ?_⟩, ?_⟩
  · rintro p i hp hi ⟨hpr, hpi⟩ l p' hp' hs
    have hr2 := quo_step hr hn hn0 hpr hs
    have k := toI_in (quo_in (L := fl n C) hr2)
    rw [atLF hp'] at k
    refine ⟨_, k.2, (mem_nf stoE _ _).2 (mem_quoE.2 ⟨_, hpr, l, _, hs, ?_⟩), hr2, k.1⟩
    rw [atLF hp, atLF hp', hpi, k.1]
  · rintro p i hp hi ⟨hpr, hpi⟩ l j hj hs
    obtain ⟨x, hx, l2, y, hs2, e⟩ := mem_quoE.1 ((mem_nf stoE _ _).1 hs)
    obtain ⟨p2, rfl, hp2, _⟩ := quo_rng hr hn hn0 hx
    have k3 := offB_false.1 (hr.edges _ hs2)
    simp only at k3
    obtain ⟨t2, rfl⟩ := Int.eq_ofNat_of_zero_le k3.2.2.2.2.1
    have ht2 : t2 < n := by omega
    simp only [Prod.mk.injEq] at e
    obtain ⟨e1, rfl, e3⟩ := e
    rw [atLF hp2] at e1
    rw [atLF ht2] at e3
    have m1 := quo_in (L := fl n C) hpr
    have m2 := quo_in (L := fl n C) hx
    rw [atLF hp] at m1
    rw [atLF hp2] at m2
    have hC : C p2 = C p := toI_inj m2 m1 (by rw [← e1, hpi])
    obtain ⟨u, hu, s1, e4⟩ := (h.bis p2 p hp2 hp hC).1 l t2 ht2 hs2
    exact ⟨u, hu, s1, quo_step hr hn hn0 hpr s1, by rw [e3, e4]⟩
  · rw [hz] at hstart h1
    have hzn : z < n := by
      obtain ⟨p, e, hp, _⟩ := quo_rng hr hn hn0 hstart
      omega
    rw [atLF hzn] at h1
    refine ⟨hstart, ?_⟩
    rw [hz, atLF hzn]
    exact h1.1
end
end Go.Proofs.YtmlmjhmdjieigaaGreatDoor

namespace Go.Proofs.YtmlmjhmdjieigaaGreatDoor
open Go.RowKit Pl Go.Sort

set_option maxRecDepth 100000 in
theorem reach_nil {w : World} {gb : Nat} {s : Lts} (h : GraphAt w gb s) (h0 : s.st = 0) :
    Calls Tryz.prog 17 #[.pointer (some ⟨gb, 0, none⟩)] w fun e w' => e = .returned (.slice none 0 0) ∧ Below w.heap.size w w' := by
  have HO := Lib.hid (getStates_any h); clear h
  have H0 := Lib.hid h0; clear h0
  go_enter Tryz.func17, Tryz.ntmps17
  go_wp2_with (go_at_call 48; refine (HO.out).mono ?_; rw [H0.out]; rintro e w1 ⟨rfl, hB⟩)
  go_ret
  exact ⟨rfl, hB⟩

/-- The world within Reach: the marks of what was seen, the list. -/
structure RW (w wr : World) (SB n : Nat) (L : List Int) (v : Value) : Prop where
  below : Below w.heap.size w wr
  seen : wr.rowIs SB 4 n (fun j => .bool (decide ((j : Int) ∈ L)))
  own : wr.ownsRow (SB + 1) 3 1 v L.length (L.flatMap encI)
  sb : w.heap.size ≤ SB

theorem RW.alloc {w wr : World} {SB n : Nat} {L : List Int} {v : Value} (h : RW w wr SB n L v) (o : Obj) : RW w (wr.alloc o) SB n L v :=
  ⟨h.below.alloc (by have := h.seen.lt; have := h.sb; omega) o, h.seen.alloc o, h.own.alloc o, h.sb⟩
theorem RW.call {w wr w' : World} {SB n : Nat} {L : List Int} {v : Value} (h : RW w wr SB n L v) (hB : Below wr.heap.size wr w') : RW w w' SB n L v :=
  ⟨h.below.trans (hB.mono (by have := h.seen.lt; have := h.sb; omega)), h.seen.of_block (hB.block _ h.seen.lt), own_below h.own hB, h.sb⟩
theorem RW.push {w wr w1 : World} {SB n : Nat} {L : List Int} {v v' : Value} {t : Nat} (h : RW w wr SB n L v) {o1 o2 : Obj} (hown : w1.ownsRow (SB + 1) 3 1 v' (L ++ [(t : Int)]).length ((L ++ [(t : Int)]).flatMap encI))
    (hg : (((wr.setCell ⟨SB, t, none⟩ (.bool true)).alloc o1).alloc o2).grownBy w1 v.ownBlock) : RW w w1 SB n (L ++ [(t : Int)]) v' := by
  have hlt := h.seen.lt
  have hsb := h.sb
  have hse := (((h.seen.set t (.bool true)).alloc o1).alloc o2)
  have hb : w1.heap[SB]? = _ := hg.block SB (by simp [World.setCell]; omega) (fun e => by have := (h.own.lt SB e.symm).1; omega)
  refine ⟨?_, (hse.of_block hb).congr (fun i _ => ?_), hown, hsb⟩
  · exact (((h.below.setCell hsb _).alloc (by simp [World.setCell]; omega) o1).alloc (by simp [World.setCell]; omega) o2).grown hg (by simp [World.setCell]; omega) (fun k hk => by have := (h.own.lt k hk).1; omega)
  · by_cases hi : i = t
    · subst hi; simp
    · rw [if_neg hi]; congr 1; simp only [List.mem_append, List.mem_singleton]
      have : ¬ ((i : Int) = (t : Int)) := by omega
      simp [this]

set_option maxRecDepth 100000 in
set_option maxHeartbeats 4000000 in
theorem reach_ok {w : World} {gb : Nat} {s : Lts} (h : GraphAt w gb s) (h0 : s.st ≠ 0) :
    Calls Tryz.prog 17 #[.pointer (some ⟨gb, 0, none⟩)] w fun e w' => ∃ v, e = .returned v ∧ w'.ownsRow w.heap.size 3 1 v (reachL s).length ((reachL s).flatMap encI) ∧ Below w.heap.size w w' := by
  have hst := h.right.st0
  obtain ⟨n, hn⟩ : ∃ n : Nat, s.st = (n : Int) := ⟨s.st.toNat, by omega⟩
  obtain ⟨z, hz⟩ : ∃ z : Nat, s.s0 = (z : Int) := ⟨s.s0.toNat, by omega⟩
  have hzn : z < n := by omega
  have hn1 : n ≤ 1000 := by omega
  have hgs := fun (w1 : World) (hB : Below w.heap.size w w1) => getStates_any (h.below hB)
  have hgt := fun (w1 : World) (hB : Below w.heap.size w w1) => getStart_any (h.below hB)
  rw [hn] at hgs; rw [hz] at hgt
  have HGS := Lib.hid hgs; have HGT := Lib.hid hgt; have HH := Lib.hid h; have HN := Lib.hid hn; have HZ := Lib.hid hz; have H0 := Lib.hid h0; have HST := Lib.hid hst
  have hmk := run_make_row' (P := Tryz.prog) 43 4 (.bool false) 1 Tryz.underlying43 (by kernel_rfl) rfl .i64 .i64 n (by omega) (by omega)
  have hnz : ((n : Int) == 0) = false := by simp; omega
  clear h hgs hgt hn hz h0 hst
  go_enter Tryz.func17, Tryz.ntmps17
  go_wp2_with fail
  refine (HGS.out w (Below.refl _ _)).mono ?_
  rintro e w1 ⟨rfl, hB1⟩
  have HB1 := Lib.hid hB1; clear hB1
  go_wp2_with fail
  refine (HGS.out w1 HB1.out).mono ?_
  rintro e w2 ⟨rfl, hB2⟩
  have hB2' := HB1.out.trans (hB2.mono HB1.out.size)
  have hs2 := hB2'.size
  have HB2 := Lib.hid hB2'; clear hB2 hB2'
  go_wp2_with fail
  have hB3 := HB2.out.alloc hs2 (Obj.cells (madeCells #[.bool false] n) 4)
  have hrow := World.rowIs_made w2 (.bool false) n 4
  refine (HGT.out _ hB3).mono ?_
  rintro e w4 ⟨rfl, hB4⟩
  have hs4 : w2.heap.size + 1 ≤ w4.heap.size := by have := hB4.size; simpa using this
  have hB4' := hB3.trans (hB4.mono (by simp; omega))
  have hrow4 : w4.rowIs w2.heap.size 4 n (fun _ => .bool false) := hrow.of_block (hB4.block _ (by simp))
  have c1 : w4.cell? ⟨w2.heap.size, z, none⟩ = some (.bool false) := hrow4.cell hzn
  have f1 : w4.frozen? ⟨w2.heap.size, z, none⟩ = false := hrow4.frozen z
  have hzn' : (z : Int) < (n : Int) := by omega
  have hlt4 : w2.heap.size < w4.heap.size := by omega
  have HB4 := Lib.hid hB4'; have HR4 := Lib.hid hrow4
  clear hmk hB3 hrow hB4 hB4' hrow4
  go_wp2_with fail
  have hB5 := HB4.out.setCell (p := ⟨w2.heap.size, z, none⟩) hs2 (.bool true)
  have hrow5 := HR4.out.set z (.bool true)
  refine (HGT.out _ hB5).mono ?_
  rintro e w6 ⟨rfl, hB6⟩
  have hs6 : w4.heap.size ≤ w6.heap.size := by have := hB6.size; simpa [World.setCell] using this
  have hB6' := hB5.trans (hB6.mono (by simp [World.setCell]; omega))
  have hrow6 := hrow5.of_block (hB6.block _ (by simpa [World.setCell] using hlt4))
  have hRW : RW w (w6.alloc (.cells #[.int .i64 z] 3)) w2.heap.size n [(z : Int)] (.slice (some ⟨w6.heap.size, 0, none⟩) 1 1) := by
    refine ⟨hB6'.alloc (by omega) _, (hrow6.alloc _).congr (fun i _ => ?_), ?_, hs2⟩
    · by_cases hi : i = z
      · subst hi; simp
      · rw [if_neg hi]
        have : ¬ ((i : Int) = (z : Int)) := by omega
        simp [this]
    · exact World.ownsRow_lit w6 #[.int .i64 z] 1 (by omega) (by unfold maxLen; omega) rfl
  have HRW := Lib.hid hRW
  clear c1 f1 hB5 hrow5 hB6 hB6' hrow6 hRW
  go_wp2_with fail
  have hbfs : Bfs s [(z : Int)] 0 := by have := Bfs.start HH.out.right H0.out; rw [HZ.out] at this; exact this
  have HBF := Lib.hid hbfs; clear hbfs
  obtain ⟨SB, hSB⟩ : ∃ SB, SB = w2.heap.size := ⟨_, rfl⟩
  rw [← hSB] at HRW ⊢
  clear HB4 HR4 hSB hs4 hs6 hs2 hlt4
  go_loopw [4, 5] (fun v4 i5 wr => ∃ (L : List Int) (i : Nat) (a : Option Addr) (c : Nat), v4 = .slice a L.length c ∧ i5 = .int .i64 i ∧ i ≤ L.length ∧ Bfs s L i ∧ RW w wr SB n L (.slice a L.length c))
    (fun _ i5 _ => n - (intOf i5).toNat)
  case atStart => exact ⟨[(z : Int)], 0, _, _, rfl, rfl, by simp, HBF.out, HRW.out⟩
  case round =>
    obtain ⟨L, i, a, c, rfl, rfl, hiL, hbf, hrw⟩ := hrel
    have hLn : L.length ≤ n := by have := hbf.len; rw [HN.out] at this; simpa using this
    have HB := Lib.hid hbf; have HW := Lib.hid hrw
    clear hbf hrw HBF HRW
    by_cases hlt : i < L.length
    · obtain ⟨x, hx⟩ := getElem?_of_lt hlt
      obtain ⟨ga, gc, g, hv, _, _, hsl, _⟩ := slAt_own lenI HW.out.own
      simp only [Value.slice.injEq] at hv
      obtain ⟨rfl, _, rfl⟩ := hv
      obtain rfl := hsl.ad (by omega)
      have hcx := hsl.ci hx
      simp only [Nat.zero_add] at hcx
      have hix : (i : Int) < (L.length : Int) := by omega
      have hea := each_any HH.out HW.out.below x
      have HEA := Lib.hid hea
      have HX := Lib.hid hx
      clear hsl hx hea
      go_wp2_with fail
      refine (HEA.out).mono ?_
      rintro e wb ⟨⟨a2, c2, b2, off2, rfl, hc2, hm2, hss⟩, hBb⟩
      have hRWb := HW.out.call hBb
      have HRWb := Lib.hid hRWb; have HSS := Lib.hid hss
      clear hRWb hss hBb hcx
      have hsslen : (s.outs x).length ≤ 10000 := outs_len HH.out.right x
      go_wp2_with fail
      go_loopw [4, 7, 34] (fun v4 _ i34 wr => ∃ (L : List Int) (r : Nat) (a : Option Addr) (c : Nat), v4 = .slice a L.length c ∧ i34 = .int .i64 r ∧ r ≤ (s.outs x).length ∧ Bfs s L i ∧ L[i]? = some x ∧ (∀ y ∈ (s.outs x).take r, y.2 ∈ L) ∧ RW w wr SB n L (.slice a L.length c))
        (fun _ _ i34 _ => (s.outs x).length - (intOf i34).toNat)
      case atStart => exact ⟨L, 0, _, _, rfl, rfl, by simp, HB.out, HX.out, by simp, HRWb.out⟩
      case round =>
        obtain ⟨M, r, a3, c3, rfl, rfl, hr, hbf, hMx, hty, hrw⟩ := hrel
        have HB2 := Lib.hid hbf; have HW2 := Lib.hid hrw; have HMX := Lib.hid hMx; have HTY := Lib.hid hty
        clear hbf hrw hMx hty HB HW HRWb
        by_cases hltr : r < (s.outs x).length
        · obtain ⟨y, hy⟩ := getElem?_of_lt hltr
          have hss' := HSS.out.below HW2.out.below (Nat.le_refl _)
          obtain rfl := hss'.ad (by omega)
          have d0 := hss'.s0 hy; have d1 := hss'.s1 hy
          have hbl := hss'.lt (by omega)
          have hym := List.mem_of_getElem? hy
          have hyr := offB_false.1 (HH.out.right.edges _ (mem_outs.1 hym))
          simp only at hyr
          obtain ⟨y1, y2⟩ := y
          obtain ⟨t, ht⟩ : ∃ t : Nat, y2 = (t : Int) := ⟨y2.toNat, by simp only at hyr; omega⟩
          subst ht
          simp only at d0 d1 hyr
          have htn : t < n := by have := HN.out; omega
          have htn' : (t : Int) < (n : Int) := by omega
          have hct : wr.cell? ⟨SB, t, none⟩ = some (.bool (decide ((t : Int) ∈ M))) := HW2.out.seen.cell htn
          have hft : wr.frozen? ⟨SB, t, none⟩ = false := HW2.out.seen.frozen t
          have hsb : SB < wr.heap.size := HW2.out.seen.lt
          have HY := Lib.hid hy; have HYM := Lib.hid hym
          clear hss' hy hym hyr
          by_cases hin : (t : Int) ∈ M
          · have hd : decide ((t : Int) ∈ M) = true := by simp [hin]
            rw [hd] at hct
            have HIN := Lib.hid hin
            clear hd hin
            go_wp2
            go_roundw
            case rel => exact ⟨M, r + 1, _, _, rfl, by go_num, by omega, HB2.out, HMX.out, by
              intro y hy
              rw [take_snoc HY.out] at hy
              rcases List.mem_append.1 hy with h1 | h1
              · exact HTY.out y h1
              · simp at h1; subst h1; exact HIN.out, HW2.out.alloc _⟩
            case measure => simp [intOf]; omega
          · have hd : decide ((t : Int) ∈ M) = false := by simp [hin]
            rw [hd] at hct
            have HIN := Lib.hid hin
            clear hd hin
            have hML : M.length ≤ n := by have := HB2.out.len; rw [HN.out] at this; simpa using this
            go_wp2_with (at_builtin; go_must (refine wpList_app1 rfl _ _ _ rfl rowI (Below.refl _ _) (by simp [World.setCell]; omega) rfl (World.ownsRow.alloc (World.ownsRow.alloc (ownsRow_setCell_below HW2.out.own (a := ⟨SB, t, none⟩) (Nat.lt_succ_self SB) (.bool true)) _) _) ⟨wr.heap.size + 1, 0, none⟩ 1 1 [.int .i64 t] rfl rfl (cells1 (by simp [go_sem, World.setCell])) (by simp [Value.oneCell']) (by decide) (by omega) (by unfold maxLen; omega) ?_); intro g2 cap2 w7 hown7 _ hg7)
            have hpush := RW.push (v' := .slice (some ⟨g2, 0, none⟩) (M.length + 1) cap2) HW2.out (by rw [List.length_append, List.flatMap_append]; exact hown7) hg7
            have hbp := Bfs.push HH.out.right HB2.out HMX.out HYM.out HIN.out
            have HP := Lib.hid hpush; have HBP := Lib.hid hbp
            clear hpush hbp hown7 hg7
            go_roundw
            case rel => exact ⟨M ++ [(t : Int)], r + 1, _, _, by rw [List.length_append]; rfl, by go_num, by omega, HBP.out, by
              rw [List.getElem?_append_left (by have := (List.getElem?_eq_some_iff.1 HMX.out).1; omega)]; exact HMX.out, by
              intro y hy
              rw [take_snoc HY.out] at hy
              rcases List.mem_append.1 hy with h1 | h1
              · exact List.mem_append_left _ (HTY.out y h1)
              · simp at h1; subst h1; simp, by rw [List.length_append]; exact HP.out⟩
            case measure => simp [intOf]; omega
        · have hall : ∀ y ∈ s.outs x, y.2 ∈ M := by
            intro y hy
            have := HTY.out
            rw [List.take_of_length_le (by omega)] at this
            exact this y hy
          have hnx := Bfs.next HB2.out HMX.out hall
          have hMn : M.length ≤ n := by have := HB2.out.len; rw [HN.out] at this; simpa using this
          have hiM : i < M.length := (List.getElem?_eq_some_iff.1 HMX.out).1
          have HNX := Lib.hid hnx
          clear hall hnx HTY
          go_wp2
          go_roundw
          case rel => exact ⟨M, i + 1, _, _, rfl, by go_num, by omega, HNX.out, HW2.out⟩
          case measure => simp [intOf]; omega
    · obtain rfl : i = L.length := by omega
      go_wp2_with fail
      refine (sortI_v HW.out.own (by omega)).mono ?_
      rintro e w8 ⟨rfl, hown8, hB8⟩
      rw [reach_of HH.out.right H0.out HB.out] at hown8
      have hb8 := hB8 (w0 := wr) (RowKit.Below.refl _ _)
      have hsb := HW.out.sb
      have hBf : RowKit.Below w.heap.size w w8 := HW.out.below.trans (hb8.mono (by omega))
      have HO8 := Lib.hid hown8; have HBF8 := Lib.hid hBf
      clear hown8 hBf hb8 hB8
      go_wp2
      go_ret
      exact ⟨_, rfl, own_mono HO8.out (by omega), HBF8.out⟩
end Go.Proofs.YtmlmjhmdjieigaaGreatDoor

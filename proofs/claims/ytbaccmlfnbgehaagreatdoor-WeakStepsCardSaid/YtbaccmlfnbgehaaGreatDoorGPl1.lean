/-
  Lemmas.
-/
open List renaming mem_cons_of_mem → l0, mem_cons → l3, mem_cons_self → l4, pairwise_cons → l5, filter_eq_nil_iff → l6, length_cons → l9, mem_filter → m0, filter_cons → m3, foldr_cons → m4, pairwise_map → m6, length_nil → m9, mem_append → n0, take_zero → n1, mem_map → n2
open Bool renaming false_eq_true → l7, eq_false_iff → m5
open Int renaming le_refl → l8, min_eq_right → m7, min_eq_left → m8
namespace Go.Proofs.YtbaccmlfnbgehaaGreatDoor
namespace Pl
structure STO {α : Type} (lt : α -> α -> Bool) : Prop where
  irrefl : ∀ a, lt a a = false
  trans : ∀ a b c, lt a b = true -> lt b c = true -> lt a c = true
  total : ∀ a b, lt a b = true ∨ a = b ∨ lt b a = true
section
variable {α : Type} {lt : α -> α -> Bool}
def Srt (lt : α -> α -> Bool) (l : List α) : Prop := l.Pairwise (fun a b => lt a b = true)
def ins (lt : α -> α -> Bool) (e : α) : List α -> List α
  | [] => [e]
  | x :: l => if lt e x then e :: x :: l else if lt x e then x :: ins lt e l else x :: l
def nf (lt : α -> α -> Bool) (l : List α) : List α := l.foldr (ins lt) []
theorem x1y (O : STO lt) (e y : α) : ∀ l, y ∈ ins lt e l ↔ y = e ∨ y ∈ l
  | [] => by simp [ins]
  | x :: l => by
    unfold ins
    split
    · simp
    · rename_i h1
      split
      · rename_i h2
        simp only [l3, x1y O e y l]
        constructor <;> (intro h; rcases h with h | h | h <;> simp [h])
      · rename_i h2
        have : e = x := by rcases O.total e x with h | h | h <;> simp_all
        subst this
        simp
theorem p2e (O : STO lt) (e : α) : ∀ l, Srt lt l -> Srt lt (ins lt e l)
  | [], _ => by simp [ins, Srt]
  | x :: l, h => by
    have hx := l5.1 h
    unfold ins
    split
    · rename_i h1
      refine l5.2 ⟨?_, h⟩
      intro a ha
      rcases l3.1 ha with rfl | ha
      · exact h1
      · exact O.trans _ _ _ h1 (hx.1 a ha)
    · split
      · rename_i h2
        refine l5.2 ⟨?_, p2e O e l hx.2⟩
        intro a ha
        rcases (x1y O e a l).1 ha with rfl | ha
        · exact h2
        · exact hx.1 a ha
      · exact h
theorem p0j (O : STO lt) (y : α) : ∀ l, y ∈ nf lt l ↔ y ∈ l
  | [] => by simp [nf]
  | x :: l => by
    have := p0j O y l
    simp only [nf, m4] at *
    rw [x1y O, this, l3]
theorem x0d (O : STO lt) : ∀ l, Srt lt (nf lt l)
  | [] => by simp [nf, Srt]
  | x :: l => by
    have := x0d O l
    simp only [nf, m4] at *
    exact p2e O x _ this
theorem x1q (O : STO lt) : ∀ l1 l2, Srt lt l1 -> Srt lt l2 -> (∀ x, x ∈ l1 ↔ x ∈ l2) -> l1 = l2
  | [], [], _, _, _ => rfl
  | [], y :: l2, _, _, h => absurd ((h y).2 (l4)) (by simp)
  | x :: l1, [], _, _, h => absurd ((h x).1 (l4)) (by simp)
  | x :: l1, y :: l2, h1, h2, h => by
    have a1 := l5.1 h1
    have a2 := l5.1 h2
    have hxy : x = y := by
      have p1 := (h x).1 (l4)
      have p2 := (h y).2 (l4)
      rcases l3.1 p1 with e | m1
      · exact e
      rcases l3.1 p2 with e | m2
      · exact e.symm
      have q1 := a2.1 x m1
      have q2 := a1.1 y m2
      have := O.trans _ _ _ q1 q2
      rw [O.irrefl] at this
      cases this
    subst hxy
    have : l1 = l2 := by
      refine x1q O l1 l2 a1.2 a2.2 fun z => ⟨fun hz => ?_, fun hz => ?_⟩
      · rcases l3.1 ((h z).1 (l0 _ hz)) with e | m
        · subst e
          have := a1.1 z hz
          rw [O.irrefl] at this; cases this
        · exact m
      · rcases l3.1 ((h z).2 (l0 _ hz)) with e | m
        · subst e
          have := a2.1 z hz
          rw [O.irrefl] at this; cases this
        · exact m
    rw [this]
theorem v2j (O : STO lt) {l l' : List α} (h : Srt lt l') (hm : ∀ x, x ∈ l' ↔ x ∈ l) : l' = nf lt l :=
  x1q O _ _ h (x0d O l) fun x => (hm x).trans (p0j O x l).symm
theorem q2h (O : STO lt) {l : List α} (h : Srt lt l) : nf lt l = l := (v2j O h fun _ => Iff.rfl).symm
theorem j1c (e : α) : ∀ l, (ins lt e l).length <= l.length + 1
  | [] => by simp [ins]
  | x :: l => by
    have := j1c e l
    unfold ins; split
    · simp
    · split <;> simp <;> omega
theorem k0s : ∀ l : List α, (nf lt l).length <= l.length
  | [] => by simp [nf]
  | x :: l => by
    have := k0s l
    simp only [nf, m4] at *
    have := j1c (lt := lt) x (List.foldr (ins lt) [] l)
    simp only [l9]; omega
def cmpt [DecidableEq α] : List α -> List α
  | [] => []
  | [x] => [x]
  | x :: y :: l => if x = y then cmpt (y :: l) else x :: cmpt (y :: l)
theorem k1o [DecidableEq α] (z : α) : ∀ l : List α, z ∈ cmpt l ↔ z ∈ l
  | [] => by simp [cmpt]
  | [x] => by simp [cmpt]
  | x :: y :: l => by
    have := k1o z (y :: l)
    unfold cmpt
    split
    · rename_i h; subst h; rw [this]; simp
    · rw [l3, this, l3]; simp
def Wk (lt : α -> α -> Bool) (l : List α) : Prop := l.Pairwise (fun a b => lt b a = false)
theorem z1v [DecidableEq α] (O : STO lt) : ∀ l : List α, Wk lt l -> Srt lt (cmpt l)
  | [], _ => by simp [cmpt, Srt]
  | [x], _ => by simp [cmpt, Srt]
  | x :: y :: l, h => by
    have hx := l5.1 h
    have ih := z1v O (y :: l) hx.2
    unfold cmpt
    split
    · exact ih
    · rename_i hne
      refine l5.2 ⟨?_, ih⟩
      intro a ha
      have ha' := (k1o a (y :: l)).1 ha
      have hlt : lt x y = true := by
        have := hx.1 y (l4)
        rcases O.total x y with e | e | e
        · exact e
        · exact absurd e hne
        · rw [this] at e; cases e
      rcases l3.1 ha' with rfl | hm
      · exact hlt
      · have h2 := (l5.1 hx.2).1 a hm
        rcases O.total y a with e | e | e
        · exact O.trans _ _ _ hlt e
        · subst e; exact hlt
        · rw [h2] at e; cases e
theorem j2z [DecidableEq α] (O : STO lt) {l l' : List α} (h : Wk lt l') (hm : ∀ x, x ∈ l' ↔ x ∈ l) : cmpt l' = nf lt l :=
  v2j O (z1v O l' h) fun x => (k1o x l').trans (hm x)
end
abbrev E := Int × Int × Int
abbrev S := Int × Int
def ltE (a b : E) : Bool := decide (a.1 < b.1) || (decide (a.1 = b.1) && (decide (a.2.1 < b.2.1) || (decide (a.2.1 = b.2.1) && decide (a.2.2 < b.2.2))))
def ltS (a b : S) : Bool := decide (a.1 < b.1) || (decide (a.1 = b.1) && decide (a.2 < b.2))
theorem p0k (a b : E) : ltE a b = true ↔ a.1 < b.1 ∨ (a.1 = b.1 /\ (a.2.1 < b.2.1 ∨ (a.2.1 = b.2.1 /\ a.2.2 < b.2.2))) := by
 simp [ltE]
theorem x0g (a b : S) : ltS a b = true ↔ a.1 < b.1 ∨ (a.1 = b.1 /\ a.2 < b.2) := by
 simp [ltS]
theorem y0k : STO ltE where
  irrefl a := by rw [m5]; intro h; rw [p0k] at h; omega
  trans a b c h1 h2 := by rw [p0k] at *; omega
  total a b := by
    rw [p0k, p0k]
    obtain ⟨a1, a2, a3⟩ := a; obtain ⟨b1, b2, b3⟩ := b
    simp only [Prod.mk.injEq]; omega
end Pl
end Go.Proofs.YtbaccmlfnbgehaaGreatDoor
namespace Go.Proofs.YtbaccmlfnbgehaaGreatDoor
namespace Pl
structure Lts where
  st : Int
  lb : Int
  s0 : Int
  es : List E
theorem piece {key : E -> Int} (i : Nat) : ∀ l : List E, l.Pairwise (fun a b => key a <= key b) ->
    (l.drop (l.filter (fun x => decide (key x < (i : Int)))).length).take ((l.filter (fun x => decide (key x < ((i + 1 : Nat) : Int)))).length - (l.filter (fun x => decide (key x < (i : Int)))).length) = l.filter (fun x => key x == (i : Int))
  | [], _ => by simp
  | x :: l, h => by
    have hx := l5.1 h
    have ih := piece i l hx.2
    rcases Int.lt_trichotomy (key x) i with h1 | h1 | h1
    · have b1 : decide (key x < (i : Int)) = true := by simp [h1]
      have b2 : decide (key x < ((i + 1 : Nat) : Int)) = true := by simp; omega
      have b3 : (key x == (i : Int)) = false := by simp; omega
      simp only [m3, b1, b2, b3, if_true, l7, if_false, l9, List.drop_succ_cons, Nat.add_sub_add_right]
      exact ih
    · have hn : l.filter (fun x => decide (key x < (i : Int))) = [] := by
        rw [l6]; intro y hy; have := hx.1 y hy; simp; omega
      have b1 : decide (key x < (i : Int)) = false := by simp; omega
      have b2 : decide (key x < ((i + 1 : Nat) : Int)) = true := by simp; omega
      have b3 : (key x == (i : Int)) = true := by simp [h1]
      rw [hn] at ih
      simp only [m3, b1, b2, b3, if_true, l7, if_false, hn, l9, m9, List.drop_zero, Nat.sub_zero, List.take_succ_cons] at ih ⊢
      rw [ih]
    · have hn : l.filter (fun x => decide (key x < (i : Int))) = [] := by
        rw [l6]; intro y hy; have := hx.1 y hy; simp; omega
      have hn2 : l.filter (fun x => decide (key x < ((i + 1 : Nat) : Int))) = [] := by
        rw [l6]; intro y hy; have := hx.1 y hy; simp; omega
      have hn3 : l.filter (fun x => key x == (i : Int)) = [] := by
        rw [l6]; intro y hy; have := hx.1 y hy; simp; omega
      have b1 : decide (key x < (i : Int)) = false := by simp; omega
      have b2 : decide (key x < ((i + 1 : Nat) : Int)) = false := by simp; omega
      have b3 : (key x == (i : Int)) = false := by simp; omega
      simp only [m3, b1, b2, b3, l7, if_false, hn, hn2, hn3, m9, Nat.sub_zero, n1]
def frK (key : E -> Int) (l : List E) (i : Nat) : Nat := (l.filter (fun x => decide (key x < (i : Int)))).length
theorem k3z (key : E -> Int) (l : List E) (i : Nat) : frK key l i <= l.length := List.length_filter_le _ _
theorem u1b (key : E -> Int) (i : Nat) : ∀ l : List E, frK key l i <= frK key l (i + 1)
  | [] => by simp [frK]
  | x :: l => by
    have ih := u1b key i l
    unfold frK at *
    simp only [m3]
    by_cases h1 : key x < (i : Int)
    · have b1 : decide (key x < (i : Int)) = true := by simp [h1]
      have b2 : decide (key x < ((i + 1 : Nat) : Int)) = true := by simp; omega
      simp only [b1, b2, if_true, l9]; omega
    · have b1 : decide (key x < (i : Int)) = false := by simp; omega
      simp only [b1, l7, if_false]
      split
      · simp only [l9]; omega
      · exact ih
def ltB (a b : E) : Bool := decide (a.2.2 < b.2.2) || (decide (a.2.2 = b.2.2) && (decide (a.2.1 < b.2.1) || (decide (a.2.1 = b.2.1) && decide (a.1 < b.1))))
theorem q0u (a b : E) : ltB a b = true ↔ a.2.2 < b.2.2 ∨ (a.2.2 = b.2.2 /\ (a.2.1 < b.2.1 ∨ (a.2.1 = b.2.1 /\ a.1 < b.1))) := by
 simp [ltB]
theorem x2z : STO ltB where
  irrefl a := by rw [m5]; intro h; rw [q0u] at h; omega
  trans a b c h1 h2 := by rw [q0u] at *; omega
  total a b := by
    rw [q0u, q0u]
    obtain ⟨a1, a2, a3⟩ := a; obtain ⟨b1, b2, b3⟩ := b
    simp only [Prod.mk.injEq]; omega
def Lts.outs (s : Lts) (i : Int) : List S := (s.es.filter (fun x => x.1 == i)).map (fun x => (x.2.1, x.2.2))
def Lts.ins (s : Lts) (i : Int) : List S := ((nf ltB s.es).filter (fun x => x.2.2 == i)).map (fun x => (x.2.1, x.1))
theorem y2h {l : List E} (h : Srt ltE l) : l.Pairwise (fun a b => a.1 <= b.1) :=
  h.imp (fun {a b} h => by rw [p0k] at h; omega)
theorem y2i {l : List E} (h : Srt ltB l) : l.Pairwise (fun a b => a.2.2 <= b.2.2) :=
  h.imp (fun {a b} h => by rw [q0u] at h; omega)
def HeadBad (st lb s0 : Int) (n : Nat) : Prop := st < 0 ∨ 1000 < st ∨ lb < 1 ∨ 201 < lb ∨ s0 < 0 ∨ (0 < s0 /\ st <= s0) ∨ 10000 < (n : Int)
def offB (st lb : Int) (x : E) : Bool := decide (x.1 < 0) || decide (x.2.2 < 0) || decide (x.2.1 < 0) || decide (st <= x.1) || decide (st <= x.2.2) || decide (lb <= x.2.1)
theorem j0g {st lb : Int} {x : E} : offB st lb x = false ↔ 0 <= x.1 /\ x.1 < st /\ 0 <= x.2.1 /\ x.2.1 < lb /\ 0 <= x.2.2 /\ x.2.2 < st := by
 simp [offB]; omega
structure Lts.Right (s : Lts) : Prop where
  head : ¬ HeadBad s.st s.lb s.s0 s.es.length
  edges : ∀ x ∈ s.es, offB s.st s.lb x = false
theorem Lts.Right.st0 {s : Lts} (h : s.Right) : 0 <= s.st /\ s.st <= 1000 /\ 1 <= s.lb /\ s.lb <= 201 /\ 0 <= s.s0 /\ (s.s0 = 0 ∨ s.s0 < s.st) /\ s.es.length <= 10000 := by
 have := h.head; unfold HeadBad at this; omega
def Lts.norm (s : Lts) : Lts := { s with es := nf ltE s.es }
theorem Lts.Right.norm {s : Lts} (h : s.Right) : s.norm.Right :=
  ⟨by have h1 := h.head; have h2 := k0s (lt := ltE) s.es; unfold HeadBad at *; simp only [Lts.norm]; omega,
    fun x hx => h.edges x ((p0j y0k x s.es).1 hx)⟩
theorem j0s {s : Lts} {i : Int} {y : S} : y ∈ s.outs i ↔ (i, y.1, y.2) ∈ s.es := by
 unfold Lts.outs
 simp only [n2, m0, beq_iff_eq]
 constructor
 · rintro ⟨x, ⟨hx, rfl⟩, rfl⟩; exact hx
 · intro h; exact ⟨_, ⟨h, rfl⟩, rfl⟩
theorem x0s {s : Lts} (h : Srt ltE s.es) (i : Int) : Srt ltS (s.outs i) := by
 unfold Lts.outs Srt
 rw [m6]
 have h1 := List.Pairwise.filter (fun x => x.1 == i) h
 refine List.Pairwise.imp_of_mem (R := fun a b => ltE a b = true) ?_ h1
 intro a b ha hb hab
 have ha' := (m0.1 ha).2; have hb' := (m0.1 hb).2
 simp only [beq_iff_eq] at ha' hb'
 rw [p0k] at hab; rw [x0g]; simp only; omega
theorem j3s {s : Lts} (i : Int) : Srt ltS (s.ins i) := by
 unfold Lts.ins Srt
 rw [m6]
 have h1 := List.Pairwise.filter (fun x => x.2.2 == i) (x0d x2z s.es)
 refine List.Pairwise.imp_of_mem (R := fun a b => ltB a b = true) ?_ h1
 intro a b ha hb hab
 have ha' := (m0.1 ha).2; have hb' := (m0.1 hb).2
 simp only [beq_iff_eq] at ha' hb'
 rw [q0u] at hab; rw [x0g]; simp only; omega
end Pl
end Go.Proofs.YtbaccmlfnbgehaaGreatDoor
namespace Go.Proofs.YtbaccmlfnbgehaaGreatDoor
namespace Pl
def tau (s : Lts) (x y : Nat) : Prop := ((x : Int), (0 : Int), (y : Int)) ∈ s.es
inductive TR (s : Lts) (x : Nat) : Nat -> Prop
  | refl : TR s x x
  | tail {y z : Nat} : TR s x y -> tau s y z -> TR s x z
theorem TR.trans {s : Lts} {x y z : Nat} (h : TR s x y) (h2 : TR s y z) : TR s x z := by
 induction h2 with
 | refl => exact h
 | tail _ ht ih => exact ih.tail ht
theorem TR.one {s : Lts} {x y : Nat} (h : tau s x y) : TR s x y := TR.refl.tail h
theorem x0l {s : Lts} (hr : s.Right) {n : Nat} (hn : s.st = (n : Int)) {x y : Nat} (h : tau s x y) : x < n /\ y < n := by
 have := j0g.1 (hr.edges _ h)
 simp only at this; omega
def taus (s : Lts) (x : Nat) : List Nat := ((s.outs (x : Int)).takeWhile (fun y => y.1 == 0)).map (fun y => y.2.toNat)
theorem k0z {l : List S} (h : Srt ltS l) (h0 : ∀ y ∈ l, 0 <= y.1) (y : S) : y ∈ l.takeWhile (fun y => y.1 == 0) ↔ y ∈ l /\ y.1 = 0 := by
 induction l with
 | nil => simp
 | cons a l ih => (
 have ha := l5.1 h
 have ih := ih ha.2 (fun z hz => h0 z (l0 _ hz))
 rw [List.takeWhile_cons]
 by_cases e : a.1 = 0
 · (
 have hb : (a.1 == 0) = true := by simp [e]
 rw [hb]
 simp only [if_true, l3, ih]
 constructor
 · rintro (rfl | ⟨h1, h2⟩)
   · exact ⟨.inl rfl, e⟩
   · exact ⟨.inr h1, h2⟩
 · rintro ⟨rfl | h1, h2⟩
   · exact .inl rfl
   · exact .inr ⟨h1, h2⟩)
 · (
 have hb : (a.1 == 0) = false := by simp [e]
 rw [hb]
 have hp := h0 a (l4)
 simp only [l7, if_false, List.not_mem_nil, false_iff, l3]
 rintro ⟨rfl | h1, h2⟩
 · exact e h2
 · have := ha.1 y h1
   rw [x0g] at this
   omega))
theorem p0m {s : Lts} (hr : s.Right) (hs : Srt ltE s.es) {x y : Nat} : y ∈ taus s x ↔ tau s x y := by
 unfold taus tau
 have h0 : ∀ z ∈ s.outs (x : Int), 0 <= z.1 := fun z hz => by
   have := j0g.1 (hr.edges _ (j0s.1 hz)); exact this.2.2.1
 rw [n2]
 constructor
 · (
 rintro ⟨z, hz, rfl⟩
 obtain ⟨h1, h2⟩ := (k0z (x0s hs x) h0 z).1 hz
 have h3 := j0s.1 h1
 have := j0g.1 (hr.edges _ h3)
 simp only at this
 rw [show ((z.2.toNat : Nat) : Int) = z.2 by omega, <- h2]
 exact h3)
 · intro h
   exact ⟨(0, (y : Int)), (k0z (x0s hs x) h0 _).2 ⟨j0s.2 h, rfl⟩, by simp⟩
def upd {α : Type} (f : Nat -> α) (k : Nat) (v : α) : Nat -> α := fun i => if i = k then v else f i
theorem upd_same {α : Type} (f : Nat -> α) (k : Nat) (v : α) : upd f k v k = v := by simp [upd]
theorem j0j {α : Type} (f : Nat -> α) {k i : Nat} (v : α) (h : i ≠ k) : upd f k v i = f i := by simp [upd, h]
def cntB (p : Nat -> Bool) (n : Nat) : Nat := ((List.range n).filter p).length
theorem q0x (p : Nat -> Bool) (n : Nat) : cntB p (n + 1) = cntB p n + (if p n then 1 else 0) := by
 unfold cntB
 rw [List.range_succ, List.filter_append, List.length_append]
 congr 1
 by_cases h : p n = true
 · simp [h]
 · simp [h]
theorem x2k (p : Nat -> Bool) : ∀ n, cntB p n <= n
  | 0 => by simp [cntB]
  | n + 1 => by rw [q0x]; have := x2k p n; split <;> omega
theorem j1i {p q : Nat -> Bool} : ∀ n, (∀ i, i < n -> p i = q i) -> cntB p n = cntB q n
  | 0, _ => by simp [cntB]
  | n + 1, h => by rw [q0x, q0x, j1i n (fun i hi => h i (by omega)), h n (by omega)]
theorem u1i {p q : Nat -> Bool} {k : Nat} (hp : p k = false) (hq : q k = true) (h : ∀ i, i ≠ k -> q i = p i) : ∀ n, k < n -> cntB q n = cntB p n + 1
  | 0, hk => by omega
  | n + 1, hk => by
    rw [q0x, q0x]
    by_cases e : k = n
    · subst e
      rw [j1i (p := q) (q := p) k (fun i hi => h i (by omega)), hp, hq]; simp
    · rw [u1i hp hq h n (by omega), h n (by omega)]; omega
structure TS where
  low : Nat -> Int
  num : Nat -> Int
  cls : Nat -> Int
  opn : List Nat
  met : Int
  found : Int
def TS.clo (t : TS) (x : Nat) : Prop := t.num x ≠ 0 /\ x ∉ t.opn
structure TI (s : Lts) (n : Nat) (t : TS) (K : List Nat) (nx : Nat -> Nat) : Prop where
  opn_lt : ∀ x ∈ t.opn, x < n
  num0 : ∀ x, x < n -> 0 <= t.num x /\ t.num x <= t.met
  inj : ∀ x y, x < n -> y < n -> t.num x = t.num y -> t.num x ≠ 0 -> x = y
  pos : ∀ x ∈ t.opn, t.num x ≠ 0
  srt : t.opn.Pairwise (fun a b => t.num b < t.num a)
  gin : ∀ g ∈ K, g ∈ t.opn
  gsrt : K.Pairwise (fun a b => t.num b < t.num a)
  tree : ∀ g ∈ K, ∀ x ∈ t.opn, t.num g <= t.num x -> TR s g x
  back : ∀ x ∈ t.opn, ∃ g ∈ K, t.num g <= t.num x /\ TR s x g
  low1 : ∀ g ∈ K, ∃ y ∈ t.opn, t.low g = t.num y /\ t.num y <= t.num g /\ TR s g y
  expl : ∀ x ∈ t.opn, ∀ y, tau s x y -> (x ∈ K -> y ∈ (taus s x).take (nx x)) -> t.num y ≠ 0 /\
    (y ∈ t.opn -> ∀ g ∈ K, t.num g <= t.num x -> (∀ g' ∈ K, t.num g' <= t.num x -> t.num g' <= t.num g) -> t.low g <= t.num y)
  clos : ∀ x, x < n -> t.clo x -> ∀ y, tau s x y -> t.clo y /\ t.cls y <= t.cls x
  cls0 : ∀ x, x < n -> t.clo x -> 0 <= t.cls x /\ t.cls x < t.found
  scc : ∀ x y, x < n -> y < n -> t.clo x -> t.clo y -> (t.cls x = t.cls y ↔ TR s x y /\ TR s y x)
  cnt : t.found + K.length <= t.met
  metc : t.met = (cntB (fun x => decide (t.num x ≠ 0)) n : Int)
  found0 : 0 <= t.found
theorem TI.start (s : Lts) (n : Nat) (f g : Nat -> Int) (nx : Nat -> Nat) : TI s n ⟨f, fun _ => 0, g, [], 0, 0⟩ [] nx where
  opn_lt x h := by simp at h
  num0 x _ := by simp
  inj x y _ _ _ h := by simp at h
  pos x h := by simp at h
  srt := by simp
  gin x h := by simp at h
  gsrt := by simp
  tree x h := by simp at h
  back x h := by simp at h
  low1 x h := by simp at h
  expl x h := by simp at h
  clos x _ h := by have := h.1; simp at this
  cls0 x _ h := by have := h.1; simp at this
  scc x y _ _ h := by have := h.1; simp at this
  cnt := by simp
  metc := by
    have : cntB (fun x => decide ((0 : Int) ≠ 0)) n = 0 := by simp [cntB]
    simp only [this]; rfl
  found0 := by simp
section
variable {s : Lts} {n : Nat} {t : TS} {K : List Nat} {nx : Nat -> Nat}
theorem TI.met_le (h : TI s n t K nx) : 0 <= t.met /\ t.met <= n := by
 have h1 := h.metc
 have h2 := x2k (fun x => decide (t.num x ≠ 0)) n
 omega
theorem TI.nd (h : TI s n t K nx) : t.opn.Nodup := h.srt.imp (fun {a b} h e => by subst e; omega)
def TS.enter (t : TS) (y : Nat) : TS := ⟨upd t.low y (t.met + 1), upd t.num y (t.met + 1), t.cls, y :: t.opn, t.met + 1, t.found⟩
theorem TI.enter (h : TI s n t K nx) {y : Nat} (hy : y < n) (h0 : t.num y = 0) {nx' : Nat -> Nat} (hK : ∀ g ∈ K, TR s g y)
    (hE : ∀ x y', x ∈ K -> y' ∈ (taus s x).take (nx' x) -> y' = y ∨ y' ∈ (taus s x).take (nx x)) : TI s n (t.enter y) (y :: K) (upd nx' y 0) := by
 have hm := h.met_le
 have hyo : y ∉ t.opn := fun hh => h.pos y hh h0
 have ne : ∀ x ∈ t.opn, x ≠ y := fun x hx e => hyo (e ▸ hx)
 have neK : ∀ x ∈ K, x ≠ y := fun x hx => ne x (h.gin x hx)
 have nm : ∀ x ∈ t.opn, (t.enter y).num x = t.num x := fun x hx => j0j _ _ (ne x hx)
 have nmK : ∀ x ∈ K, (t.enter y).num x = t.num x := fun x hx => nm x (h.gin x hx)
 have lw : ∀ x ∈ K, (t.enter y).low x = t.low x := fun x hx => j0j _ _ (neK x hx)
 have nle : ∀ x ∈ t.opn, t.num x <= t.met := fun x hx => (h.num0 x (h.opn_lt x hx)).2
 have ny : (t.enter y).num y = t.met + 1 := upd_same _ _ _
 have nz : ∀ x, t.num x ≠ 0 -> (t.enter y).num x = t.num x := fun x hx => j0j _ _ (fun e => hx (e ▸ h0))
 have cl : ∀ x, (t.enter y).clo x ↔ t.clo x := by (
 intro x
 have ho : (t.enter y).opn = y :: t.opn := rfl
 unfold TS.clo
 rw [ho, l3]
 by_cases e : x = y
 · subst e; simp [h0]
 · rw [show (t.enter y).num x = t.num x from j0j _ _ e]; simp [e])
 refine ⟨?_, ?_, ?_, ?_, ?_, ?_, ?_, ?_, ?_, ?_, ?_, ?_, ?_, ?_, ?_, ?_, h.found0⟩
 · intro x hx
   rcases l3.1 hx with rfl | hx
   · exact hy
   · exact h.opn_lt x hx
 · (
 intro x hx
 by_cases e : x = y
 · subst e; rw [ny]; show 0 <= t.met + 1 /\ t.met + 1 <= t.met + 1; omega
 · rw [show (t.enter y).num x = t.num x from j0j _ _ e]
   have := h.num0 x hx
   show 0 <= t.num x /\ t.num x <= t.met + 1; omega)
 · (
 intro a b ha hb hab hne
 by_cases e1 : a = y <;> by_cases e2 : b = y
 · rw [e1, e2]
 · subst e1; rw [ny, show (t.enter a).num b = t.num b from j0j _ _ e2] at hab
   have := h.num0 b hb; omega
 · subst e2; rw [ny, show (t.enter b).num a = t.num a from j0j _ _ e1] at hab
   have := h.num0 a ha; omega
 · rw [show (t.enter y).num a = t.num a from j0j _ _ e1] at hab hne
   rw [show (t.enter y).num b = t.num b from j0j _ _ e2] at hab
   exact h.inj a b ha hb hab hne)
 · intro x hx
   rcases l3.1 hx with rfl | hx
   · rw [ny]; omega
   · rw [nm x hx]; exact h.pos x hx
 · show (y :: t.opn).Pairwise _
   rw [l5]
   refine ⟨fun b hb => ?_, ?_⟩
   · rw [nm b hb, ny]; have := nle b hb; omega
   · exact List.Pairwise.imp_of_mem (fun {a b} ha hb hab => by rw [nm a ha, nm b hb]; exact hab) h.srt
 · intro g hg
   rcases l3.1 hg with rfl | hg
   · exact l4
   · exact l0 _ (h.gin g hg)
 · rw [l5]
   refine ⟨fun b hb => ?_, ?_⟩
   · rw [nmK b hb, ny]; have := nle b (h.gin b hb); omega
   · exact List.Pairwise.imp_of_mem (fun {a b} ha hb hab => by rw [nmK a ha, nmK b hb]; exact hab) h.gsrt
 · (
 intro g hg x hx hle
 rcases l3.1 hg with e1 | hg
 · rcases l3.1 hx with e2 | hx
   · rw [e1, e2]; exact TR.refl
   · rw [e1, ny, nm x hx] at hle; have := nle x hx; omega
 · rcases l3.1 hx with e2 | hx
   · rw [e2]; exact hK g hg
   · rw [nmK g hg, nm x hx] at hle; exact h.tree g hg x hx hle)
 · intro x hx
   rcases l3.1 hx with rfl | hx
   · exact ⟨x, l4, l8 _, TR.refl⟩
   · obtain ⟨g, hg, h1, h2⟩ := h.back x hx
     exact ⟨g, l0 _ hg, by rw [nmK g hg, nm x hx]; exact h1, h2⟩
 · intro g hg
   rcases l3.1 hg with e1 | hg
   · rw [e1]; exact ⟨y, l4, by rw [ny]; exact upd_same _ _ _, l8 _, TR.refl⟩
   · obtain ⟨z, hz, h1, h2, h3⟩ := h.low1 g hg
     exact ⟨z, l0 _ hz, by rw [lw g hg, nm z hz]; exact h1, by rw [nm z hz, nmK g hg]; exact h2, h3⟩
 · (
 intro x hx z hxz hE'
 rcases l3.1 hx with rfl | hx
 · have := hE' l4
   rw [upd_same, n1] at this
   simp at this
 · (
 have hxy := ne x hx
 have hold : z = y ∨ (x ∈ K -> z ∈ (taus s x).take (nx x)) := by (
 by_cases hk : x ∈ K
 · have := hE' (l0 _ hk)
   rw [j0j _ _ hxy] at this
   rcases hE x z hk this with h1 | h1
   · exact .inl h1
   · exact .inr (fun _ => h1)
 · exact .inr (fun h => absurd h hk))
 have zone : ∀ g ∈ y :: K, (t.enter y).num g <= (t.enter y).num x -> g ∈ K := by (
 intro g hg hle
 rcases l3.1 hg with e1 | hg
 · rw [e1, ny, nm x hx] at hle; have := nle x hx; omega
 · exact hg)
 by_cases hzy : z = y
 · (
 subst hzy
 refine ⟨by rw [ny]; omega, fun _ g hg hle _ => ?_⟩
 have hgK := zone g hg hle
 obtain ⟨w, hw, h1, h2, _⟩ := h.low1 g hgK
 rw [lw g hgK, ny, h1]
 have := nle g (h.gin g hgK); omega)
 · (
 have hold := hold.resolve_left hzy
 obtain ⟨h1, h2⟩ := h.expl x hx z hxz hold
 refine ⟨by rw [nz z h1]; exact h1, fun hzo g hg hle hdeep => ?_⟩
 have hzo' : z ∈ t.opn := by (
 rcases l3.1 hzo with e | e
 · exact absurd e hzy
 · exact e)
 have hgK := zone g hg hle
 rw [lw g hgK, nz z h1]
 rw [nmK g hgK, nm x hx] at hle
 refine h2 hzo' g hgK hle (fun g' hg' hle' => ?_)
 have := hdeep g' (l0 _ hg') (by rw [nmK g' hg', nm x hx]; exact hle')
 rw [nmK g' hg', nmK g hgK] at this
 exact this)))
 · intro x hx hc z hz
   have hc := (cl x).1 hc
   obtain ⟨h1, h2⟩ := h.clos x hx hc z hz
   exact ⟨(cl z).2 h1, h2⟩
 · intro x hx hc; exact h.cls0 x hx ((cl x).1 hc)
 · intro a b ha hb hca hcb; exact h.scc a b ha hb ((cl a).1 hca) ((cl b).1 hcb)
 · have := h.cnt; show t.found + ((y :: K).length : Int) <= t.met + 1; simp; omega
 · have := h.metc
   show t.met + 1 = _
   rw [u1i (p := fun x => decide (t.num x ≠ 0)) (q := fun x => decide ((t.enter y).num x ≠ 0)) (k := y) (by simp [h0]) (by rw [ny]; simp; omega)
     (fun i hi => by rw [show (t.enter y).num i = t.num i from j0j _ _ hi]) n hy]
   omega
theorem TI.scan {x : Nat} (h : TI s n t (x :: K) nx) {y : Nat} (hx : (taus s x)[nx x]? = some y) (hxy : tau s x y) (hy : y < n) (h0 : t.num y ≠ 0) :
    TI s n { t with low := if y ∈ t.opn then upd t.low x (min (t.low x) (t.num y)) else t.low } (x :: K) (upd nx x (nx x + 1)) := by
 have hxo : x ∈ t.opn := h.gin x l4
 have lwo : ∀ g, g ≠ x -> (if y ∈ t.opn then upd t.low x (min (t.low x) (t.num y)) else t.low) g = t.low g := by (
 intro g hg; split
 · exact j0j _ _ hg
 · rfl)
 have lwx : (if y ∈ t.opn then upd t.low x (min (t.low x) (t.num y)) else t.low) x <= t.low x := by (
 split
 · rw [upd_same]; omega
 · exact l8 _)
 have lwy : y ∈ t.opn -> (if y ∈ t.opn then upd t.low x (min (t.low x) (t.num y)) else t.low) x <= t.num y := by
   intro hh; rw [if_pos hh, upd_same]; omega
 have tk : ∀ x' z, x' ∈ x :: K -> z ∈ (taus s x').take (upd nx x (nx x + 1) x') -> (x' = x /\ z = y) ∨ z ∈ (taus s x').take (nx x') := by (
 intro x' z _ hz
 by_cases e : x' = x
 · (
 subst e
 rw [upd_same] at hz
 obtain ⟨hl, hg⟩ := List.getElem?_eq_some_iff.1 hx
 rw [List.take_succ_eq_append_getElem hl, hg] at hz
 rcases n0.1 hz with h1 | h1
 · exact .inr h1
 · exact .inl ⟨rfl, by simpa using h1⟩)
 · rw [j0j _ _ e] at hz; exact .inr hz)
 refine ⟨h.opn_lt, h.num0, h.inj, h.pos, h.srt, h.gin, h.gsrt, h.tree, h.back, ?_, ?_, h.clos, h.cls0, h.scc, h.cnt, h.metc, h.found0⟩
 · (
 intro g hg
 show ∃ y_1 ∈ t.opn, (if y ∈ t.opn then upd t.low x (min (t.low x) (t.num y)) else t.low) g = t.num y_1 /\ t.num y_1 <= t.num g /\ TR s g y_1
 by_cases e : g = x
 · (
 subst e
 obtain ⟨z, hz, h1, h2, h3⟩ := h.low1 g hg
 by_cases hyo : y ∈ t.opn
 · rw [if_pos hyo, upd_same]
   by_cases hle : t.low g <= t.num y
   · exact ⟨z, hz, by rw [m8 hle]; exact h1, h2, h3⟩
   · exact ⟨y, hyo, by rw [m7 (by omega)], by omega, TR.one hxy⟩
 · rw [if_neg hyo]; exact ⟨z, hz, h1, h2, h3⟩)
 · rw [lwo g e]; exact h.low1 g hg)
 · (
 intro x' hx' z hxz hE
 show t.num z ≠ 0 /\ (z ∈ t.opn -> ∀ g ∈ x :: K, t.num g <= t.num x' -> (∀ g' ∈ x :: K, t.num g' <= t.num x' -> t.num g' <= t.num g) -> (if y ∈ t.opn then upd t.low x (min (t.low x) (t.num y)) else t.low) g <= t.num z)
 by_cases hnew : x' = x /\ z = y
 · (
 obtain ⟨rfl, rfl⟩ := hnew
 refine ⟨h0, fun hzo g hg hle hdeep => ?_⟩
 have h1 := hdeep x' l4 (l8 _)
 have hgo := h.gin g hg
 have : g = x' := h.inj g x' (h.opn_lt g hgo) (h.opn_lt x' hx') (by omega) (h.pos g hgo)
 subst this
 exact lwy hzo)
 · (
 have hold : x' ∈ x :: K -> z ∈ (taus s x').take (nx x') := fun hk => (tk x' z hk (hE hk)).resolve_left hnew
 obtain ⟨h1, h2⟩ := h.expl x' hx' z hxz hold
 refine ⟨h1, fun hzo g hg hle hdeep => ?_⟩
 have h3 := h2 hzo g hg hle hdeep
 by_cases e : g = x
 · subst e; omega
 · rw [lwo g e]; exact h3))
theorem TI.top {x : Nat} (h : TI s n t (x :: K) nx) : ∀ g ∈ x :: K, t.num g <= t.num x := by
 intro g hg
 rcases l3.1 hg with rfl | hg
 · exact l8 _
 · have := (l5.1 h.gsrt).1 g hg; omega
theorem TI.leave1 {x : Nat} (h : TI s n t (x :: K) nx) (hall : ∀ y, tau s x y -> y ∈ (taus s x).take (nx x)) (hne : t.low x ≠ t.num x) :
    ∃ g K', K = g :: K' /\ TI s n { t with low := upd t.low g (min (t.low g) (t.low x)) } K nx := by
 have hxo : x ∈ t.opn := h.gin x l4
 have hs := l5.1 h.gsrt
 obtain ⟨y, hyo, hly, hyx, hxy⟩ := h.low1 x l4
 have hlt : t.num y < t.num x := by omega
 obtain ⟨g0, hg0, hg0y, hyg0⟩ := h.back y hyo
 have hg0K : g0 ∈ K := by (
 rcases l3.1 hg0 with rfl | hh
 · omega
 · exact hh)
 have hxK : x ∉ K := fun hh => by have := hs.1 x hh; omega
 obtain ⟨g, K', rfl⟩ : ∃ g K', K = g :: K' := by (
 cases K with
 | nil => simp at hg0K
 | cons a b => exact ⟨a, b, rfl⟩)
 refine ⟨g, K', rfl, ?_⟩
 have hgo : g ∈ t.opn := h.gin g (by simp)
 have hs2 := l5.1 hs.2
 have hgmax : ∀ g' ∈ g :: K', t.num g' <= t.num g := by (
 intro g' hg'
 rcases l3.1 hg' with rfl | hh
 · exact l8 _
 · have := hs2.1 g' hh; omega)
 have hg0g := hgmax g0 hg0K
 have hgx : t.num g < t.num x := hs.1 g (by simp)
 refine ⟨h.opn_lt, h.num0, h.inj, h.pos, h.srt, fun a ha => h.gin a (l0 _ ha), hs.2, fun a ha => h.tree a (l0 _ ha), ?_, ?_, ?_, h.clos, h.cls0, h.scc, ?_, h.metc, h.found0⟩
 · (
 intro z hz
 show ∃ a ∈ g :: K', t.num a <= t.num z /\ TR s z a
 obtain ⟨a, ha, h1, h2⟩ := h.back z hz
 rcases l3.1 ha with rfl | ha
 · exact ⟨g0, hg0K, by omega, (h2.trans hxy).trans hyg0⟩
 · exact ⟨a, ha, h1, h2⟩)
 · (
 intro a ha
 show ∃ y ∈ t.opn, upd t.low g (min (t.low g) (t.low x)) a = t.num y /\ t.num y <= t.num a /\ TR s a y
 by_cases e : a = g
 · (
 subst e
 rw [upd_same]
 obtain ⟨z, hz, h1, h2, h3⟩ := h.low1 a (l0 _ ha)
 by_cases hle : t.low a <= t.low x
 · exact ⟨z, hz, by rw [m8 hle]; exact h1, h2, h3⟩
 · exact ⟨y, hyo, by rw [m7 (by omega)]; exact hly, by omega, (h.tree a (l0 _ ha) x hxo (by omega)).trans hxy⟩)
 · rw [j0j _ _ e]; exact h.low1 a (l0 _ ha))
 · (
 intro x' hx' z hxz hE
 show t.num z ≠ 0 /\ (z ∈ t.opn -> ∀ a ∈ g :: K', t.num a <= t.num x' -> (∀ g' ∈ g :: K', t.num g' <= t.num x' -> t.num g' <= t.num a) -> upd t.low g (min (t.low g) (t.low x)) a <= t.num z)
 have hold : x' ∈ x :: g :: K' -> z ∈ (taus s x').take (nx x') := by (
 intro hk
 rcases l3.1 hk with rfl | hk
 · exact hall z hxz
 · exact hE hk)
 obtain ⟨h1, h2⟩ := h.expl x' hx' z hxz hold
 refine ⟨h1, fun hzo a ha hle hdeep => ?_⟩
 by_cases hxx : t.num x <= t.num x'
 · (
 have hag : a = g := by (
 have h3 := hdeep g (by simp) (by omega)
 have h4 := hgmax a ha
 have hao := h.gin a (l0 _ ha)
 exact h.inj a g (h.opn_lt a hao) (h.opn_lt g hgo) (by omega) (h.pos a hao))
 subst hag
 rw [upd_same]
 have := h2 hzo x l4 hxx (fun g' hg' _ => h.top g' hg')
 omega)
 · (
 have h3 := h2 hzo a (l0 _ ha) hle (fun g' hg' hle' => by (
 rcases l3.1 hg' with rfl | hg'
 · omega
 · exact hdeep g' hg' hle'))
 by_cases e : a = g
 · subst e; rw [upd_same]; omega
 · rw [j0j _ _ e]; exact h3))
 · have := h.cnt; show t.found + ((g :: K').length : Int) <= t.met; simp at this ⊢; omega
theorem u2p (h : TI s n t K nx) (hr : s.Right) (hn : s.st = (n : Int)) {x y : Nat} (hx : x < n) (hc : t.clo x) (h1 : TR s x y) : y < n /\ t.clo y := by
 induction h1 with
 | refl => exact ⟨hx, hc⟩
 | tail _ ht ih => exact ⟨(x0l hr hn ht).2, (h.clos _ ih.1 ih.2 _ ht).1⟩
theorem TI.leave2 {x : Nat} (h : TI s n t (x :: K) nx) (hr : s.Right) (hn : s.st = (n : Int)) (hall : ∀ y, tau s x y -> y ∈ (taus s x).take (nx x)) (heq : t.low x = t.num x) {Pp Q : List Nat} (ho : t.opn = Pp ++ x :: Q) :
    TI s n { t with opn := Q, cls := fun i => if i ∈ Pp ++ [x] then t.found else t.cls i, found := t.found + 1 } K nx /\ (∀ g ∈ K, t.low g <= t.low x) := by
 have hxo : x ∈ t.opn := h.gin x l4
 have hs := l5.1 h.gsrt
 have hsr := h.srt
 rw [ho] at hsr
 obtain ⟨_, hs2, hs3⟩ := List.pairwise_append.1 hsr
 have hP : ∀ z ∈ Pp, t.num x < t.num z := fun z hz => hs3 z hz x l4
 have hQ : ∀ z ∈ Q, t.num z < t.num x := fun z hz => (l5.1 hs2).1 z hz
 have mo : ∀ z, z ∈ t.opn ↔ z ∈ Pp ++ [x] ∨ z ∈ Q := by intro z; rw [ho]; simp [or_assoc]
 have mC : ∀ z, z ∈ Pp ++ [x] -> z ∈ t.opn /\ t.num x <= t.num z := by (
 intro z hz
 refine ⟨(mo z).2 (.inl hz), ?_⟩
 rcases n0.1 hz with h1 | h1
 · have := hP z h1; omega
 · simp at h1; subst h1; exact l8 _)
 have mQ : ∀ z, z ∈ Q -> z ∈ t.opn := fun z hz => (mo z).2 (.inr hz)
 have nQ : ∀ z, z ∈ t.opn -> t.num z < t.num x -> z ∈ Q := by (
 intro z hz hlt
 rcases (mo z).1 hz with h1 | h1
 · have := (mC z h1).2; omega
 · exact h1)
 have nC : ∀ z, z ∈ t.opn -> t.num x <= t.num z -> z ∈ Pp ++ [x] := by (
 intro z hz hle
 rcases (mo z).1 hz with h1 | h1
 · exact h1
 · have := hQ z h1; omega)
 have QC : ∀ z, z ∈ Q -> z ∉ Pp ++ [x] := fun z hz h1 => by have := hQ z hz; have := (mC z h1).2; omega
 have KQ : ∀ g ∈ K, g ∈ Q := fun g hg => nQ g (h.gin g (l0 _ hg)) (hs.1 g hg)
 have cl : ∀ z, ({ t with opn := Q, cls := fun i => if i ∈ Pp ++ [x] then t.found else t.cls i, found := t.found + 1 } : TS).clo z ↔ (t.clo z ∨ z ∈ Pp ++ [x]) := by (
 intro z
 unfold TS.clo
 constructor
 · rintro ⟨h1, h2⟩
   by_cases hz : z ∈ t.opn
   · exact .inr (((mo z).1 hz).resolve_right h2)
   · exact .inl ⟨h1, hz⟩
 · rintro (⟨h1, h2⟩ | h1)
   · exact ⟨h1, fun hh => h2 (mQ z hh)⟩
   · exact ⟨h.pos z (mC z h1).1, fun hh => QC z hh h1⟩)
 have clC : ∀ z, t.clo z -> z ∉ Pp ++ [x] := fun z hz h1 => hz.2 (mC z h1).1
 have reach : ∀ z, z ∈ Pp ++ [x] -> TR s z x /\ TR s x z := by (
 intro z hz
 obtain ⟨hzo, hle⟩ := mC z hz
 refine ⟨?_, h.tree x l4 z hzo hle⟩
 obtain ⟨g, hg, _, h2⟩ := h.back z hzo
 exact h2.trans (h.tree g hg x hxo (h.top g hg)))
 refine ⟨⟨fun z hz => h.opn_lt z (mQ z hz), h.num0, h.inj, fun z hz => h.pos z (mQ z hz), (l5.1 hs2).2, KQ, hs.2, fun g hg z hz => h.tree g (l0 _ hg) z (mQ z hz), ?_, ?_, ?_, ?_, ?_, ?_, ?_, h.metc, by have := h.found0; show 0 <= t.found + 1; omega⟩, ?_⟩
 · (
 intro z hz
 have hz : z ∈ Q := hz
 obtain ⟨g, hg, h1, h2⟩ := h.back z (mQ z hz)
 rcases l3.1 hg with rfl | hg
 · have := hQ z hz; omega
 · exact ⟨g, hg, h1, h2⟩)
 · intro g hg
   obtain ⟨z, hz, h1, h2, h3⟩ := h.low1 g (l0 _ hg)
   exact ⟨z, nQ z hz (by have := hs.1 g hg; omega), h1, h2, h3⟩
 · (
 intro x' hx' z hxz hE
 have hx' : x' ∈ Q := hx'
 have hxlt := hQ x' hx'
 have hold : x' ∈ x :: K -> z ∈ (taus s x').take (nx x') := by (
 intro hk
 rcases l3.1 hk with rfl | hk
 · omega
 · exact hE hk)
 obtain ⟨h1, h2⟩ := h.expl x' (mQ x' hx') z hxz hold
 refine ⟨h1, fun hzo g hg hle hdeep => h2 (mQ z hzo) g (l0 _ hg) hle (fun g' hg' hle' => ?_)⟩
 rcases l3.1 hg' with rfl | hg'
 · have : t.num g' <= t.num x' := hle'; omega
 · exact hdeep g' hg' hle')
 · (
 intro x' hx' hc z hz
 rw [cl] at hc ⊢
 show (t.clo z ∨ z ∈ Pp ++ [x]) /\ (if z ∈ Pp ++ [x] then t.found else t.cls z) <= (if x' ∈ Pp ++ [x] then t.found else t.cls x')
 rcases hc with hc | hc
 · obtain ⟨h1, h2⟩ := h.clos x' hx' hc z hz
   rw [if_neg (clC z h1), if_neg (clC x' hc)]
   exact ⟨.inl h1, h2⟩
 · (
 obtain ⟨hxo', hle'⟩ := mC x' hc
 have hold : x' ∈ x :: K -> z ∈ (taus s x').take (nx x') := by (
 intro hk
 rcases l3.1 hk with rfl | hk
 · exact hall z hz
 · exact absurd hc (QC x' (KQ x' hk)))
 obtain ⟨h1, h2⟩ := h.expl x' hxo' z hz hold
 rw [if_pos hc]
 by_cases hzo : z ∈ t.opn
 · have h3 := h2 hzo x l4 hle' (fun g' hg' _ => h.top g' hg')
   have hzC := nC z hzo (by omega)
   rw [if_pos hzC]
   exact ⟨.inr hzC, l8 _⟩
 · have hzc : t.clo z := ⟨h1, hzo⟩
   rw [if_neg (clC z hzc)]
   have := h.cls0 z (x0l hr hn hz).2 hzc
   exact ⟨.inl hzc, by omega⟩))
 · (
 intro z hz hc
 rw [cl] at hc
 show 0 <= (if z ∈ Pp ++ [x] then t.found else t.cls z) /\ (if z ∈ Pp ++ [x] then t.found else t.cls z) < t.found + 1
 rcases hc with hc | hc
 · rw [if_neg (clC z hc)]; have := h.cls0 z hz hc; omega
 · rw [if_pos hc]
   have hf : 0 <= t.found := h.found0
   omega)
 · (
 intro a b ha hb hca hcb
 rw [cl] at hca hcb
 show (if a ∈ Pp ++ [x] then t.found else t.cls a) = (if b ∈ Pp ++ [x] then t.found else t.cls b) ↔ _
 rcases hca with hca | hca <;> rcases hcb with hcb | hcb
 · rw [if_neg (clC a hca), if_neg (clC b hcb)]; exact h.scc a b ha hb hca hcb
 · (
 rw [if_neg (clC a hca), if_pos hcb]
 have := h.cls0 a ha hca
 constructor
 · intro e; omega
 · rintro ⟨h1, _⟩
   exact absurd hcb (clC b (u2p h hr hn ha hca h1).2))
 · (
 rw [if_pos hca, if_neg (clC b hcb)]
 have := h.cls0 b hb hcb
 constructor
 · intro e; omega
 · rintro ⟨_, h1⟩
   exact absurd hca (clC a (u2p h hr hn hb hcb h1).2))
 · rw [if_pos hca, if_pos hcb]
   have h1 := reach a hca; have h2 := reach b hcb
   exact ⟨fun _ => ⟨h1.1.trans h2.2, h2.1.trans h1.2⟩, fun _ => rfl⟩)
 · have := h.cnt; show t.found + 1 + (K.length : Int) <= t.met; simp at this; omega
 · intro g hg
   obtain ⟨z, _, h1, h2, _⟩ := h.low1 g (l0 _ hg)
   have := hs.1 g hg
   omega
end
end Pl
end Go.Proofs.YtbaccmlfnbgehaaGreatDoor

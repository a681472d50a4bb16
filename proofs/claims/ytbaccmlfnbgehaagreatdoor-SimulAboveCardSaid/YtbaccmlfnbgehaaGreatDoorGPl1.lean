/-
  Lemmas.
-/
namespace Go.Proofs.YtbaccmlfnbgehaaGreatDoor
namespace Pl
structure STO {α : Type} (lt : α → α → Bool) : Prop where
  irrefl : ∀ a, lt a a = false
  trans : ∀ a b c, lt a b = true → lt b c = true → lt a c = true
  total : ∀ a b, lt a b = true ∨ a = b ∨ lt b a = true
section
variable {α : Type} {lt : α → α → Bool}
def Srt (lt : α → α → Bool) (l : List α) : Prop := l.Pairwise (fun a b => lt a b = true)
def ins (lt : α → α → Bool) (e : α) : List α → List α
  | [] => [e]
  | x :: l => if lt e x then e :: x :: l else if lt x e then x :: ins lt e l else x :: l
def nf (lt : α → α → Bool) (l : List α) : List α := l.foldr (ins lt) []
theorem mem_ins (O : STO lt) (e y : α) : ∀ l, y ∈ ins lt e l ↔ y = e ∨ y ∈ l
  | [] => by simp [ins]
  | x :: l => by
    unfold ins
    split
    · simp
    · rename_i h1
      split
      · rename_i h2
        simp only [List.mem_cons, mem_ins O e y l]
        constructor <;> (intro h; rcases h with h | h | h <;> simp [h])
      · rename_i h2
        have : e = x := by rcases O.total e x with h | h | h <;> simp_all
        subst this
        simp
theorem srt_ins (O : STO lt) (e : α) : ∀ l, Srt lt l → Srt lt (ins lt e l)
  | [], _ => by simp [ins, Srt]
  | x :: l, h => by
    have hx := List.pairwise_cons.1 h
    unfold ins
    split
    · rename_i h1
      refine List.pairwise_cons.2 ⟨?_, h⟩
      intro a ha
      rcases List.mem_cons.1 ha with rfl | ha
      · exact h1
      · exact O.trans _ _ _ h1 (hx.1 a ha)
    · split
      · rename_i h2
        refine List.pairwise_cons.2 ⟨?_, srt_ins O e l hx.2⟩
        intro a ha
        rcases (mem_ins O e a l).1 ha with rfl | ha
        · exact h2
        · exact hx.1 a ha
      · exact h
theorem mem_nf (O : STO lt) (y : α) : ∀ l, y ∈ nf lt l ↔ y ∈ l
  | [] => by simp [nf]
  | x :: l => by
    have := mem_nf O y l
    simp only [nf, List.foldr_cons] at *
    rw [mem_ins O, this, List.mem_cons]
theorem srt_nf (O : STO lt) : ∀ l, Srt lt (nf lt l)
  | [] => by simp [nf, Srt]
  | x :: l => by
    have := srt_nf O l
    simp only [nf, List.foldr_cons] at *
    exact srt_ins O x _ this
theorem srt_ext (O : STO lt) : ∀ l1 l2, Srt lt l1 → Srt lt l2 → (∀ x, x ∈ l1 ↔ x ∈ l2) → l1 = l2
  | [], [], _, _, _ => rfl
  | [], y :: l2, _, _, h => absurd ((h y).2 (List.mem_cons_self)) (by simp)
  | x :: l1, [], _, _, h => absurd ((h x).1 (List.mem_cons_self)) (by simp)
  | x :: l1, y :: l2, h1, h2, h => by
    have a1 := List.pairwise_cons.1 h1
    have a2 := List.pairwise_cons.1 h2
    have hxy : x = y := by
      have p1 := (h x).1 (List.mem_cons_self)
      have p2 := (h y).2 (List.mem_cons_self)
      rcases List.mem_cons.1 p1 with e | m1
      · exact e
      rcases List.mem_cons.1 p2 with e | m2
      · exact e.symm
      have q1 := a2.1 x m1
      have q2 := a1.1 y m2
      have := O.trans _ _ _ q1 q2
      rw [O.irrefl] at this
      cases this
    subst hxy
    have : l1 = l2 := by
      refine srt_ext O l1 l2 a1.2 a2.2 fun z => ⟨fun hz => ?_, fun hz => ?_⟩
      · rcases List.mem_cons.1 ((h z).1 (List.mem_cons_of_mem _ hz)) with e | m
        · subst e
          have := a1.1 z hz
          rw [O.irrefl] at this; cases this
        · exact m
      · rcases List.mem_cons.1 ((h z).2 (List.mem_cons_of_mem _ hz)) with e | m
        · subst e
          have := a2.1 z hz
          rw [O.irrefl] at this; cases this
        · exact m
    rw [this]
theorem eq_nf (O : STO lt) {l l' : List α} (h : Srt lt l') (hm : ∀ x, x ∈ l' ↔ x ∈ l) : l' = nf lt l :=
  srt_ext O _ _ h (srt_nf O l) fun x => (hm x).trans (mem_nf O x l).symm
theorem length_ins (e : α) : ∀ l, (ins lt e l).length ≤ l.length + 1
  | [] => by simp [ins]
  | x :: l => by
    have := length_ins e l
    unfold ins; split
    · simp
    · split <;> simp <;> omega
theorem length_nf : ∀ l : List α, (nf lt l).length ≤ l.length
  | [] => by simp [nf]
  | x :: l => by
    have := length_nf l
    simp only [nf, List.foldr_cons] at *
    have := length_ins (lt := lt) x (List.foldr (ins lt) [] l)
    simp only [List.length_cons]; omega
def cmpt [DecidableEq α] : List α → List α
  | [] => []
  | [x] => [x]
  | x :: y :: l => if x = y then cmpt (y :: l) else x :: cmpt (y :: l)
theorem mem_cmpt [DecidableEq α] (z : α) : ∀ l : List α, z ∈ cmpt l ↔ z ∈ l
  | [] => by simp [cmpt]
  | [x] => by simp [cmpt]
  | x :: y :: l => by
    have := mem_cmpt z (y :: l)
    unfold cmpt
    split
    · rename_i h; subst h; rw [this]; simp
    · rw [List.mem_cons, this, List.mem_cons]; simp
def Wk (lt : α → α → Bool) (l : List α) : Prop := l.Pairwise (fun a b => lt b a = false)
theorem srt_cmpt [DecidableEq α] (O : STO lt) : ∀ l : List α, Wk lt l → Srt lt (cmpt l)
  | [], _ => by simp [cmpt, Srt]
  | [x], _ => by simp [cmpt, Srt]
  | x :: y :: l, h => by
    have hx := List.pairwise_cons.1 h
    have ih := srt_cmpt O (y :: l) hx.2
    unfold cmpt
    split
    · exact ih
    · rename_i hne
      refine List.pairwise_cons.2 ⟨?_, ih⟩
      intro a ha
      have ha' := (mem_cmpt a (y :: l)).1 ha
      have hlt : lt x y = true := by
        have := hx.1 y (List.mem_cons_self)
        rcases O.total x y with e | e | e
        · exact e
        · exact absurd e hne
        · rw [this] at e; cases e
      rcases List.mem_cons.1 ha' with rfl | hm
      · exact hlt
      · have h2 := (List.pairwise_cons.1 hx.2).1 a hm
        rcases O.total y a with e | e | e
        · exact O.trans _ _ _ hlt e
        · subst e; exact hlt
        · rw [h2] at e; cases e
theorem cmpt_eq_nf [DecidableEq α] (O : STO lt) {l l' : List α} (h : Wk lt l') (hm : ∀ x, x ∈ l' ↔ x ∈ l) : cmpt l' = nf lt l :=
  eq_nf O (srt_cmpt O l' h) fun x => (mem_cmpt x l').trans (hm x)
end
abbrev E := Int × Int × Int
abbrev S := Int × Int
def ltE (a b : E) : Bool := decide (a.1 < b.1) || (decide (a.1 = b.1) && (decide (a.2.1 < b.2.1) || (decide (a.2.1 = b.2.1) && decide (a.2.2 < b.2.2))))
def ltS (a b : S) : Bool := decide (a.1 < b.1) || (decide (a.1 = b.1) && decide (a.2 < b.2))
theorem ltE_iff (a b : E) : ltE a b = true ↔ a.1 < b.1 ∨ (a.1 = b.1 ∧ (a.2.1 < b.2.1 ∨ (a.2.1 = b.2.1 ∧ a.2.2 < b.2.2))) := by
  simp [ltE]
theorem ltS_iff (a b : S) : ltS a b = true ↔ a.1 < b.1 ∨ (a.1 = b.1 ∧ a.2 < b.2) := by
  simp [ltS]
theorem stoE : STO ltE where
  irrefl a := by rw [Bool.eq_false_iff]; intro h; rw [ltE_iff] at h; omega
  trans a b c h1 h2 := by rw [ltE_iff] at *; omega
  total a b := by
    rw [ltE_iff, ltE_iff]
    obtain ⟨a1, a2, a3⟩ := a; obtain ⟨b1, b2, b3⟩ := b
    simp only [Prod.mk.injEq]; omega
theorem stoS : STO ltS where
  irrefl a := by rw [Bool.eq_false_iff]; intro h; rw [ltS_iff] at h; omega
  trans a b c h1 h2 := by rw [ltS_iff] at *; omega
  total a b := by
    rw [ltS_iff, ltS_iff]
    obtain ⟨a1, a2⟩ := a; obtain ⟨b1, b2⟩ := b
    simp only [Prod.mk.injEq]; omega
end Pl
end Go.Proofs.YtbaccmlfnbgehaaGreatDoor
namespace Go.Proofs.YtbaccmlfnbgehaaGreatDoor
namespace Pl
structure Lts where
  st : Int
  lb : Int
  s0 : Int
  es : List E
theorem piece {key : E → Int} (i : Nat) : ∀ l : List E, l.Pairwise (fun a b => key a ≤ key b) →
    (l.drop (l.filter (fun x => decide (key x < (i : Int)))).length).take ((l.filter (fun x => decide (key x < ((i + 1 : Nat) : Int)))).length - (l.filter (fun x => decide (key x < (i : Int)))).length) = l.filter (fun x => key x == (i : Int))
  | [], _ => by simp
  | x :: l, h => by
    have hx := List.pairwise_cons.1 h
    have ih := piece i l hx.2
    rcases Int.lt_trichotomy (key x) i with h1 | h1 | h1
    · have b1 : decide (key x < (i : Int)) = true := by simp [h1]
      have b2 : decide (key x < ((i + 1 : Nat) : Int)) = true := by simp; omega
      have b3 : (key x == (i : Int)) = false := by simp; omega
      simp only [List.filter_cons, b1, b2, b3, if_true, Bool.false_eq_true, if_false, List.length_cons, List.drop_succ_cons, Nat.add_sub_add_right]
      exact ih
    · have hn : l.filter (fun x => decide (key x < (i : Int))) = [] := by
        rw [List.filter_eq_nil_iff]; intro y hy; have := hx.1 y hy; simp; omega
      have b1 : decide (key x < (i : Int)) = false := by simp; omega
      have b2 : decide (key x < ((i + 1 : Nat) : Int)) = true := by simp; omega
      have b3 : (key x == (i : Int)) = true := by simp [h1]
      rw [hn] at ih
      simp only [List.filter_cons, b1, b2, b3, if_true, Bool.false_eq_true, if_false, hn, List.length_cons, List.length_nil, List.drop_zero, Nat.sub_zero, List.take_succ_cons] at ih ⊢
      rw [ih]
    · have hn : l.filter (fun x => decide (key x < (i : Int))) = [] := by
        rw [List.filter_eq_nil_iff]; intro y hy; have := hx.1 y hy; simp; omega
      have hn2 : l.filter (fun x => decide (key x < ((i + 1 : Nat) : Int))) = [] := by
        rw [List.filter_eq_nil_iff]; intro y hy; have := hx.1 y hy; simp; omega
      have hn3 : l.filter (fun x => key x == (i : Int)) = [] := by
        rw [List.filter_eq_nil_iff]; intro y hy; have := hx.1 y hy; simp; omega
      have b1 : decide (key x < (i : Int)) = false := by simp; omega
      have b2 : decide (key x < ((i + 1 : Nat) : Int)) = false := by simp; omega
      have b3 : (key x == (i : Int)) = false := by simp; omega
      simp only [List.filter_cons, b1, b2, b3, Bool.false_eq_true, if_false, hn, hn2, hn3, List.length_nil, Nat.sub_zero, List.take_zero]
def frK (key : E → Int) (l : List E) (i : Nat) : Nat := (l.filter (fun x => decide (key x < (i : Int)))).length
theorem frK_le (key : E → Int) (l : List E) (i : Nat) : frK key l i ≤ l.length := List.length_filter_le _ _
theorem frK_mono (key : E → Int) (i : Nat) : ∀ l : List E, frK key l i ≤ frK key l (i + 1)
  | [] => by simp [frK]
  | x :: l => by
    have ih := frK_mono key i l
    unfold frK at *
    simp only [List.filter_cons]
    by_cases h1 : key x < (i : Int)
    · have b1 : decide (key x < (i : Int)) = true := by simp [h1]
      have b2 : decide (key x < ((i + 1 : Nat) : Int)) = true := by simp; omega
      simp only [b1, b2, if_true, List.length_cons]; omega
    · have b1 : decide (key x < (i : Int)) = false := by simp; omega
      simp only [b1, Bool.false_eq_true, if_false]
      split
      · simp only [List.length_cons]; omega
      · exact ih
def ltB (a b : E) : Bool := decide (a.2.2 < b.2.2) || (decide (a.2.2 = b.2.2) && (decide (a.2.1 < b.2.1) || (decide (a.2.1 = b.2.1) && decide (a.1 < b.1))))
theorem ltB_iff (a b : E) : ltB a b = true ↔ a.2.2 < b.2.2 ∨ (a.2.2 = b.2.2 ∧ (a.2.1 < b.2.1 ∨ (a.2.1 = b.2.1 ∧ a.1 < b.1))) := by
  simp [ltB]
theorem stoB : STO ltB where
  irrefl a := by rw [Bool.eq_false_iff]; intro h; rw [ltB_iff] at h; omega
  trans a b c h1 h2 := by rw [ltB_iff] at *; omega
  total a b := by
    rw [ltB_iff, ltB_iff]
    obtain ⟨a1, a2, a3⟩ := a; obtain ⟨b1, b2, b3⟩ := b
    simp only [Prod.mk.injEq]; omega
def Lts.outs (s : Lts) (i : Int) : List S := (s.es.filter (fun x => x.1 == i)).map (fun x => (x.2.1, x.2.2))
def Lts.ins (s : Lts) (i : Int) : List S := ((nf ltB s.es).filter (fun x => x.2.2 == i)).map (fun x => (x.2.1, x.1))
theorem srtE_key {l : List E} (h : Srt ltE l) : l.Pairwise (fun a b => a.1 ≤ b.1) :=
  h.imp (fun {a b} h => by rw [ltE_iff] at h; omega)
theorem srtB_key {l : List E} (h : Srt ltB l) : l.Pairwise (fun a b => a.2.2 ≤ b.2.2) :=
  h.imp (fun {a b} h => by rw [ltB_iff] at h; omega)
def HeadBad (st lb s0 : Int) (n : Nat) : Prop := st < 0 ∨ 1000 < st ∨ lb < 1 ∨ 201 < lb ∨ s0 < 0 ∨ (0 < s0 ∧ st ≤ s0) ∨ 10000 < (n : Int)
def offB (st lb : Int) (x : E) : Bool := decide (x.1 < 0) || decide (x.2.2 < 0) || decide (x.2.1 < 0) || decide (st ≤ x.1) || decide (st ≤ x.2.2) || decide (lb ≤ x.2.1)
theorem offB_false {st lb : Int} {x : E} : offB st lb x = false ↔ 0 ≤ x.1 ∧ x.1 < st ∧ 0 ≤ x.2.1 ∧ x.2.1 < lb ∧ 0 ≤ x.2.2 ∧ x.2.2 < st := by
  simp [offB]; omega
structure Lts.Right (s : Lts) : Prop where
  head : ¬ HeadBad s.st s.lb s.s0 s.es.length
  edges : ∀ x ∈ s.es, offB s.st s.lb x = false
theorem Lts.Right.st0 {s : Lts} (h : s.Right) : 0 ≤ s.st ∧ s.st ≤ 1000 ∧ 1 ≤ s.lb ∧ s.lb ≤ 201 ∧ 0 ≤ s.s0 ∧ (s.s0 = 0 ∨ s.s0 < s.st) ∧ s.es.length ≤ 10000 := by
  have := h.head; unfold HeadBad at this; omega
def Lts.norm (s : Lts) : Lts := { s with es := nf ltE s.es }
theorem Lts.Right.norm {s : Lts} (h : s.Right) : s.norm.Right :=
  ⟨by have h1 := h.head; have h2 := length_nf (lt := ltE) s.es; unfold HeadBad at *; simp only [Lts.norm]; omega,
    fun x hx => h.edges x ((mem_nf stoE x s.es).1 hx)⟩
theorem mem_outs {s : Lts} {i : Int} {y : S} : y ∈ s.outs i ↔ (i, y.1, y.2) ∈ s.es := by
  unfold Lts.outs
  simp only [List.mem_map, List.mem_filter, beq_iff_eq]
  constructor
  · rintro ⟨x, ⟨hx, rfl⟩, rfl⟩; exact hx
  · intro h; exact ⟨_, ⟨h, rfl⟩, rfl⟩
theorem mem_inS {s : Lts} {i : Int} {y : S} : y ∈ s.ins i ↔ (y.2, y.1, i) ∈ s.es := by
  unfold Lts.ins
  simp only [List.mem_map, List.mem_filter, beq_iff_eq, mem_nf stoB]
  constructor
  · rintro ⟨x, ⟨hx, rfl⟩, rfl⟩; exact hx
  · intro h; exact ⟨_, ⟨h, rfl⟩, rfl⟩
theorem outs_srt {s : Lts} (h : Srt ltE s.es) (i : Int) : Srt ltS (s.outs i) := by
  unfold Lts.outs Srt
  rw [List.pairwise_map]
  have h1 := List.Pairwise.filter (fun x => x.1 == i) h
  refine List.Pairwise.imp_of_mem (R := fun a b => ltE a b = true) ?_ h1
  intro a b ha hb hab
  have ha' := (List.mem_filter.1 ha).2; have hb' := (List.mem_filter.1 hb).2
  simp only [beq_iff_eq] at ha' hb'
  rw [ltE_iff] at hab; rw [ltS_iff]; simp only; omega
end Pl
end Go.Proofs.YtbaccmlfnbgehaaGreatDoor
namespace Go.Proofs.YtbaccmlfnbgehaaGreatDoor
namespace Pl
def tau (s : Lts) (x y : Nat) : Prop := ((x : Int), (0 : Int), (y : Int)) ∈ s.es
inductive TR (s : Lts) (x : Nat) : Nat → Prop
  | refl : TR s x x
  | tail {y z : Nat} : TR s x y → tau s y z → TR s x z
theorem TR.trans {s : Lts} {x y z : Nat} (h : TR s x y) (h2 : TR s y z) : TR s x z := by
  induction h2 with
  | refl => exact h
  | tail _ ht ih => exact ih.tail ht
theorem TR.one {s : Lts} {x y : Nat} (h : tau s x y) : TR s x y := TR.refl.tail h
theorem tau_lt {s : Lts} (hr : s.Right) {n : Nat} (hn : s.st = (n : Int)) {x y : Nat} (h : tau s x y) : x < n ∧ y < n := by
  have := offB_false.1 (hr.edges _ h)
  simp only at this; omega
def taus (s : Lts) (x : Nat) : List Nat := ((s.outs (x : Int)).takeWhile (fun y => y.1 == 0)).map (fun y => y.2.toNat)
theorem takeWhile_mem {l : List S} (h : Srt ltS l) (h0 : ∀ y ∈ l, 0 ≤ y.1) (y : S) : y ∈ l.takeWhile (fun y => y.1 == 0) ↔ y ∈ l ∧ y.1 = 0 := by
  induction l with
  | nil => simp
  | cons a l ih =>
    have ha := List.pairwise_cons.1 h
    have ih := ih ha.2 (fun z hz => h0 z (List.mem_cons_of_mem _ hz))
    rw [List.takeWhile_cons]
    by_cases e : a.1 = 0
    · have hb : (a.1 == 0) = true := by simp [e]
      rw [hb]
      simp only [if_true, List.mem_cons, ih]
      constructor
      · rintro (rfl | ⟨h1, h2⟩)
        · exact ⟨.inl rfl, e⟩
        · exact ⟨.inr h1, h2⟩
      · rintro ⟨rfl | h1, h2⟩
        · exact .inl rfl
        · exact .inr ⟨h1, h2⟩
    · have hb : (a.1 == 0) = false := by simp [e]
      rw [hb]
      have hp := h0 a (List.mem_cons_self)
      simp only [Bool.false_eq_true, if_false, List.not_mem_nil, false_iff, List.mem_cons]
      rintro ⟨rfl | h1, h2⟩
      · exact e h2
      · have := ha.1 y h1
        rw [ltS_iff] at this
        omega
theorem mem_taus {s : Lts} (hr : s.Right) (hs : Srt ltE s.es) {x y : Nat} : y ∈ taus s x ↔ tau s x y := by
  unfold taus tau
  have h0 : ∀ z ∈ s.outs (x : Int), 0 ≤ z.1 := fun z hz => by
    have := offB_false.1 (hr.edges _ (mem_outs.1 hz)); exact this.2.2.1
  rw [List.mem_map]
  constructor
  · rintro ⟨z, hz, rfl⟩
    obtain ⟨h1, h2⟩ := (takeWhile_mem (outs_srt hs x) h0 z).1 hz
    have h3 := mem_outs.1 h1
    have := offB_false.1 (hr.edges _ h3)
    simp only at this
    rw [show ((z.2.toNat : Nat) : Int) = z.2 by omega, ← h2]
    exact h3
  · intro h
    exact ⟨(0, (y : Int)), (takeWhile_mem (outs_srt hs x) h0 _).2 ⟨mem_outs.2 h, rfl⟩, by simp⟩
def upd {α : Type} (f : Nat → α) (k : Nat) (v : α) : Nat → α := fun i => if i = k then v else f i
theorem upd_same {α : Type} (f : Nat → α) (k : Nat) (v : α) : upd f k v k = v := by simp [upd]
theorem upd_other {α : Type} (f : Nat → α) {k i : Nat} (v : α) (h : i ≠ k) : upd f k v i = f i := by simp [upd, h]
def cntB (p : Nat → Bool) (n : Nat) : Nat := ((List.range n).filter p).length
theorem cntB_succ (p : Nat → Bool) (n : Nat) : cntB p (n + 1) = cntB p n + (if p n then 1 else 0) := by
  unfold cntB
  rw [List.range_succ, List.filter_append, List.length_append]
  congr 1
  by_cases h : p n = true
  · simp [h]
  · simp [h]
theorem cntB_le (p : Nat → Bool) : ∀ n, cntB p n ≤ n
  | 0 => by simp [cntB]
  | n + 1 => by rw [cntB_succ]; have := cntB_le p n; split <;> omega
theorem cntB_congr {p q : Nat → Bool} : ∀ n, (∀ i, i < n → p i = q i) → cntB p n = cntB q n
  | 0, _ => by simp [cntB]
  | n + 1, h => by rw [cntB_succ, cntB_succ, cntB_congr n (fun i hi => h i (by omega)), h n (by omega)]
theorem cntB_set {p q : Nat → Bool} {k : Nat} (hp : p k = false) (hq : q k = true) (h : ∀ i, i ≠ k → q i = p i) : ∀ n, k < n → cntB q n = cntB p n + 1
  | 0, hk => by omega
  | n + 1, hk => by
    rw [cntB_succ, cntB_succ]
    by_cases e : k = n
    · subst e
      rw [cntB_congr (p := q) (q := p) k (fun i hi => h i (by omega)), hp, hq]; simp
    · rw [cntB_set hp hq h n (by omega), h n (by omega)]; omega
structure TS where
  low : Nat → Int
  num : Nat → Int
  cls : Nat → Int
  opn : List Nat
  met : Int
  found : Int
def TS.clo (t : TS) (x : Nat) : Prop := t.num x ≠ 0 ∧ x ∉ t.opn
structure TI (s : Lts) (n : Nat) (t : TS) (K : List Nat) (nx : Nat → Nat) : Prop where
  opn_lt : ∀ x ∈ t.opn, x < n
  num0 : ∀ x, x < n → 0 ≤ t.num x ∧ t.num x ≤ t.met
  inj : ∀ x y, x < n → y < n → t.num x = t.num y → t.num x ≠ 0 → x = y
  pos : ∀ x ∈ t.opn, t.num x ≠ 0
  srt : t.opn.Pairwise (fun a b => t.num b < t.num a)
  gin : ∀ g ∈ K, g ∈ t.opn
  gsrt : K.Pairwise (fun a b => t.num b < t.num a)
  tree : ∀ g ∈ K, ∀ x ∈ t.opn, t.num g ≤ t.num x → TR s g x
  back : ∀ x ∈ t.opn, ∃ g ∈ K, t.num g ≤ t.num x ∧ TR s x g
  low1 : ∀ g ∈ K, ∃ y ∈ t.opn, t.low g = t.num y ∧ t.num y ≤ t.num g ∧ TR s g y
  expl : ∀ x ∈ t.opn, ∀ y, tau s x y → (x ∈ K → y ∈ (taus s x).take (nx x)) → t.num y ≠ 0 ∧
    (y ∈ t.opn → ∀ g ∈ K, t.num g ≤ t.num x → (∀ g' ∈ K, t.num g' ≤ t.num x → t.num g' ≤ t.num g) → t.low g ≤ t.num y)
  clos : ∀ x, x < n → t.clo x → ∀ y, tau s x y → t.clo y ∧ t.cls y ≤ t.cls x
  cls0 : ∀ x, x < n → t.clo x → 0 ≤ t.cls x ∧ t.cls x < t.found
  scc : ∀ x y, x < n → y < n → t.clo x → t.clo y → (t.cls x = t.cls y ↔ TR s x y ∧ TR s y x)
  cnt : t.found + K.length ≤ t.met
  metc : t.met = (cntB (fun x => decide (t.num x ≠ 0)) n : Int)
  found0 : 0 ≤ t.found
theorem TI.start (s : Lts) (n : Nat) (f g : Nat → Int) (nx : Nat → Nat) : TI s n ⟨f, fun _ => 0, g, [], 0, 0⟩ [] nx where
  opn_lt x h := by simp at h
  num0 x _ := by simp
  inj x y _ _ _ h := by simp at h
  pos x h := by simp at h
  srt := by simp
  gin x h := by simp at h
  gsrt := by simp
  tree x h := by simp at h
  back x h := by simp at h
  low1 x h := by simp at h
  expl x h := by simp at h
  clos x _ h := by have := h.1; simp at this
  cls0 x _ h := by have := h.1; simp at this
  scc x y _ _ h := by have := h.1; simp at this
  cnt := by simp
  metc := by
    have : cntB (fun x => decide ((0 : Int) ≠ 0)) n = 0 := by simp [cntB]
    simp only [this]; rfl
  found0 := by simp
section
variable {s : Lts} {n : Nat} {t : TS} {K : List Nat} {nx : Nat → Nat}
theorem TI.met_le (h : TI s n t K nx) : 0 ≤ t.met ∧ t.met ≤ n := by
  have h1 := h.metc
  have h2 := cntB_le (fun x => decide (t.num x ≠ 0)) n
  omega
theorem TI.nd (h : TI s n t K nx) : t.opn.Nodup := h.srt.imp (fun {a b} h e => by subst e; omega)
def TS.enter (t : TS) (y : Nat) : TS := ⟨upd t.low y (t.met + 1), upd t.num y (t.met + 1), t.cls, y :: t.opn, t.met + 1, t.found⟩
theorem TI.enter (h : TI s n t K nx) {y : Nat} (hy : y < n) (h0 : t.num y = 0) {nx' : Nat → Nat} (hK : ∀ g ∈ K, TR s g y)
    (hE : ∀ x y', x ∈ K → y' ∈ (taus s x).take (nx' x) → y' = y ∨ y' ∈ (taus s x).take (nx x)) : TI s n (t.enter y) (y :: K) (upd nx' y 0) := by
  have hm := h.met_le
  have hyo : y ∉ t.opn := fun hh => h.pos y hh h0
  have ne : ∀ x ∈ t.opn, x ≠ y := fun x hx e => hyo (e ▸ hx)
  have neK : ∀ x ∈ K, x ≠ y := fun x hx => ne x (h.gin x hx)
  have nm : ∀ x ∈ t.opn, (t.enter y).num x = t.num x := fun x hx => upd_other _ _ (ne x hx)
  have nmK : ∀ x ∈ K, (t.enter y).num x = t.num x := fun x hx => nm x (h.gin x hx)
  have lw : ∀ x ∈ K, (t.enter y).low x = t.low x := fun x hx => upd_other _ _ (neK x hx)
  have nle : ∀ x ∈ t.opn, t.num x ≤ t.met := fun x hx => (h.num0 x (h.opn_lt x hx)).2
  have ny : (t.enter y).num y = t.met + 1 := upd_same _ _ _
  have nz : ∀ x, t.num x ≠ 0 → (t.enter y).num x = t.num x := fun x hx => upd_other _ _ (fun e => hx (e ▸ h0))
  have cl : ∀ x, (t.enter y).clo x ↔ t.clo x := by
    intro x
    have ho : (t.enter y).opn = y :: t.opn := rfl
    unfold TS.clo
    rw [ho, List.mem_cons]
    by_cases e : x = y
    · subst e; simp [h0]
    · rw [show (t.enter y).num x = t.num x from upd_other _ _ e]; simp [e]
  refine ⟨?_, ?_, ?_, ?_, ?_, ?_, ?_, ?_, ?_, ?_, ?_, ?_, ?_, ?_, ?_, ?_, h.found0⟩
  · intro x hx
    rcases List.mem_cons.1 hx with rfl | hx
    · exact hy
    · exact h.opn_lt x hx
  · intro x hx
    by_cases e : x = y
    · subst e; rw [ny]; show 0 ≤ t.met + 1 ∧ t.met + 1 ≤ t.met + 1; omega
    · rw [show (t.enter y).num x = t.num x from upd_other _ _ e]
      have := h.num0 x hx
      show 0 ≤ t.num x ∧ t.num x ≤ t.met + 1; omega
  · intro a b ha hb hab hne
    by_cases e1 : a = y <;> by_cases e2 : b = y
    · rw [e1, e2]
    · subst e1; rw [ny, show (t.enter a).num b = t.num b from upd_other _ _ e2] at hab
      have := h.num0 b hb; omega
    · subst e2; rw [ny, show (t.enter b).num a = t.num a from upd_other _ _ e1] at hab
      have := h.num0 a ha; omega
    · rw [show (t.enter y).num a = t.num a from upd_other _ _ e1] at hab hne
      rw [show (t.enter y).num b = t.num b from upd_other _ _ e2] at hab
      exact h.inj a b ha hb hab hne
  · intro x hx
    rcases List.mem_cons.1 hx with rfl | hx
    · rw [ny]; omega
    · rw [nm x hx]; exact h.pos x hx
  · show (y :: t.opn).Pairwise _
    rw [List.pairwise_cons]
    refine ⟨fun b hb => ?_, ?_⟩
    · rw [nm b hb, ny]; have := nle b hb; omega
    · exact List.Pairwise.imp_of_mem (fun {a b} ha hb hab => by rw [nm a ha, nm b hb]; exact hab) h.srt
  · intro g hg
    rcases List.mem_cons.1 hg with rfl | hg
    · exact List.mem_cons_self
    · exact List.mem_cons_of_mem _ (h.gin g hg)
  · rw [List.pairwise_cons]
    refine ⟨fun b hb => ?_, ?_⟩
    · rw [nmK b hb, ny]; have := nle b (h.gin b hb); omega
    · exact List.Pairwise.imp_of_mem (fun {a b} ha hb hab => by rw [nmK a ha, nmK b hb]; exact hab) h.gsrt
  · intro g hg x hx hle
    rcases List.mem_cons.1 hg with e1 | hg
    · rcases List.mem_cons.1 hx with e2 | hx
      · rw [e1, e2]; exact TR.refl
      · rw [e1, ny, nm x hx] at hle; have := nle x hx; omega
    · rcases List.mem_cons.1 hx with e2 | hx
      · rw [e2]; exact hK g hg
      · rw [nmK g hg, nm x hx] at hle; exact h.tree g hg x hx hle
  · intro x hx
    rcases List.mem_cons.1 hx with rfl | hx
    · exact ⟨x, List.mem_cons_self, Int.le_refl _, TR.refl⟩
    · obtain ⟨g, hg, h1, h2⟩ := h.back x hx
      exact ⟨g, List.mem_cons_of_mem _ hg, by rw [nmK g hg, nm x hx]; exact h1, h2⟩
  · intro g hg
    rcases List.mem_cons.1 hg with e1 | hg
    · rw [e1]; exact ⟨y, List.mem_cons_self, by rw [ny]; exact upd_same _ _ _, Int.le_refl _, TR.refl⟩
    · obtain ⟨z, hz, h1, h2, h3⟩ := h.low1 g hg
      exact ⟨z, List.mem_cons_of_mem _ hz, by rw [lw g hg, nm z hz]; exact h1, by rw [nm z hz, nmK g hg]; exact h2, h3⟩
  · intro x hx z hxz hE'
    rcases List.mem_cons.1 hx with rfl | hx
    · have := hE' List.mem_cons_self
      rw [upd_same, List.take_zero] at this
      simp at this
    · have hxy := ne x hx
      have hold : z = y ∨ (x ∈ K → z ∈ (taus s x).take (nx x)) := by
        by_cases hk : x ∈ K
        · have := hE' (List.mem_cons_of_mem _ hk)
          rw [upd_other _ _ hxy] at this
          rcases hE x z hk this with h1 | h1
          · exact .inl h1
          · exact .inr (fun _ => h1)
        · exact .inr (fun h => absurd h hk)
      have zone : ∀ g ∈ y :: K, (t.enter y).num g ≤ (t.enter y).num x → g ∈ K := by
        intro g hg hle
        rcases List.mem_cons.1 hg with e1 | hg
        · rw [e1, ny, nm x hx] at hle; have := nle x hx; omega
        · exact hg
      by_cases hzy : z = y
      · subst hzy
        refine ⟨by rw [ny]; omega, fun _ g hg hle _ => ?_⟩
        have hgK := zone g hg hle
        obtain ⟨w, hw, h1, h2, _⟩ := h.low1 g hgK
        rw [lw g hgK, ny, h1]
        have := nle g (h.gin g hgK); omega
      · have hold := hold.resolve_left hzy
        obtain ⟨h1, h2⟩ := h.expl x hx z hxz hold
        refine ⟨by rw [nz z h1]; exact h1, fun hzo g hg hle hdeep => ?_⟩
        have hzo' : z ∈ t.opn := by
          rcases List.mem_cons.1 hzo with e | e
          · exact absurd e hzy
          · exact e
        have hgK := zone g hg hle
        rw [lw g hgK, nz z h1]
        rw [nmK g hgK, nm x hx] at hle
        refine h2 hzo' g hgK hle (fun g' hg' hle' => ?_)
        have := hdeep g' (List.mem_cons_of_mem _ hg') (by rw [nmK g' hg', nm x hx]; exact hle')
        rw [nmK g' hg', nmK g hgK] at this
        exact this
  · intro x hx hc z hz
    have hc := (cl x).1 hc
    obtain ⟨h1, h2⟩ := h.clos x hx hc z hz
    exact ⟨(cl z).2 h1, h2⟩
  · intro x hx hc; exact h.cls0 x hx ((cl x).1 hc)
  · intro a b ha hb hca hcb; exact h.scc a b ha hb ((cl a).1 hca) ((cl b).1 hcb)
  · have := h.cnt; show t.found + ((y :: K).length : Int) ≤ t.met + 1; simp; omega
  · have := h.metc
    show t.met + 1 = _
    rw [cntB_set (p := fun x => decide (t.num x ≠ 0)) (q := fun x => decide ((t.enter y).num x ≠ 0)) (k := y) (by simp [h0]) (by rw [ny]; simp; omega)
      (fun i hi => by rw [show (t.enter y).num i = t.num i from upd_other _ _ hi]) n hy]
    omega
theorem TI.top {x : Nat} (h : TI s n t (x :: K) nx) : ∀ g ∈ x :: K, t.num g ≤ t.num x := by
  intro g hg
  rcases List.mem_cons.1 hg with rfl | hg
  · exact Int.le_refl _
  · have := (List.pairwise_cons.1 h.gsrt).1 g hg; omega
end
end Pl
end Go.Proofs.YtbaccmlfnbgehaaGreatDoor

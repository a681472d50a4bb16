/-
  Lemmas.
-/
namespace Go.Proofs.YtffjcehopoaboaaGreatDoor
namespace Pl
structure STO {α : Type} (lt : α → α → Bool) : Prop where
  irrefl : ∀ a, lt a a = false
  trans : ∀ a b c, lt a b = true → lt b c = true → lt a c = true
  total : ∀ a b, lt a b = true ∨ a = b ∨ lt b a = true
section
variable {α : Type} {lt : α → α → Bool}
def Srt (lt : α → α → Bool) (l : List α) : Prop := l.Pairwise (fun a b => lt a b = true)
def ins (lt : α → α → Bool) (e : α) : List α → List α
  | [] => [e]
  | x :: l => if lt e x then e :: x :: l else if lt x e then x :: ins lt e l else x :: l
def nf (lt : α → α → Bool) (l : List α) : List α := l.foldr (ins lt) []
theorem mem_ins (O : STO lt) (e y : α) : ∀ l, y ∈ ins lt e l ↔ y = e ∨ y ∈ l
  | [] => by simp [ins]
  | x :: l => by
    unfold ins
    split
    · simp
    · rename_i h1
      split
      · rename_i h2
        simp only [List.mem_cons, mem_ins O e y l]
        constructor <;> (intro h; rcases h with h | h | h <;> simp [h])
      · rename_i h2
        have : e = x := by rcases O.total e x with h | h | h <;> simp_all
        subst this
        simp
theorem srt_ins (O : STO lt) (e : α) : ∀ l, Srt lt l → Srt lt (ins lt e l)
  | [], _ => by simp [ins, Srt]
  | x :: l, h => by
    have hx := List.pairwise_cons.1 h
    unfold ins
    split
    · rename_i h1
      refine List.pairwise_cons.2 ⟨?_, h⟩
      intro a ha
      rcases List.mem_cons.1 ha with rfl | ha
      · exact h1
      · exact O.trans _ _ _ h1 (hx.1 a ha)
    · split
      · rename_i h2
        refine List.pairwise_cons.2 ⟨?_, srt_ins O e l hx.2⟩
        intro a ha
        rcases (mem_ins O e a l).1 ha with rfl | ha
        · exact h2
        · exact hx.1 a ha
      · exact h
theorem mem_nf (O : STO lt) (y : α) : ∀ l, y ∈ nf lt l ↔ y ∈ l
  | [] => by simp [nf]
  | x :: l => by
    have := mem_nf O y l
    simp only [nf, List.foldr_cons] at *
    rw [mem_ins O, this, List.mem_cons]
theorem srt_nf (O : STO lt) : ∀ l, Srt lt (nf lt l)
  | [] => by simp [nf, Srt]
  | x :: l => by
    have := srt_nf O l
    simp only [nf, List.foldr_cons] at *
    exact srt_ins O x _ this
theorem srt_ext (O : STO lt) : ∀ l1 l2, Srt lt l1 → Srt lt l2 → (∀ x, x ∈ l1 ↔ x ∈ l2) → l1 = l2
  | [], [], _, _, _ => rfl
  | [], y :: l2, _, _, h => absurd ((h y).2 (List.mem_cons_self)) (by simp)
  | x :: l1, [], _, _, h => absurd ((h x).1 (List.mem_cons_self)) (by simp)
  | x :: l1, y :: l2, h1, h2, h => by
    have a1 := List.pairwise_cons.1 h1
    have a2 := List.pairwise_cons.1 h2
    have hxy : x = y := by
      have p1 := (h x).1 (List.mem_cons_self)
      have p2 := (h y).2 (List.mem_cons_self)
      rcases List.mem_cons.1 p1 with e | m1
      · exact e
      rcases List.mem_cons.1 p2 with e | m2
      · exact e.symm
      have q1 := a2.1 x m1
      have q2 := a1.1 y m2
      have := O.trans _ _ _ q1 q2
      rw [O.irrefl] at this
      cases this
    subst hxy
    have : l1 = l2 := by
      refine srt_ext O l1 l2 a1.2 a2.2 fun z => ⟨fun hz => ?_, fun hz => ?_⟩
      · rcases List.mem_cons.1 ((h z).1 (List.mem_cons_of_mem _ hz)) with e | m
        · subst e
          have := a1.1 z hz
          rw [O.irrefl] at this; cases this
        · exact m
      · rcases List.mem_cons.1 ((h z).2 (List.mem_cons_of_mem _ hz)) with e | m
        · subst e
          have := a2.1 z hz
          rw [O.irrefl] at this; cases this
        · exact m
    rw [this]
theorem eq_nf (O : STO lt) {l l' : List α} (h : Srt lt l') (hm : ∀ x, x ∈ l' ↔ x ∈ l) : l' = nf lt l :=
  srt_ext O _ _ h (srt_nf O l) fun x => (hm x).trans (mem_nf O x l).symm
theorem length_ins (e : α) : ∀ l, (ins lt e l).length ≤ l.length + 1
  | [] => by simp [ins]
  | x :: l => by
    have := length_ins e l
    unfold ins; split
    · simp
    · split <;> simp <;> omega
theorem length_nf : ∀ l : List α, (nf lt l).length ≤ l.length
  | [] => by simp [nf]
  | x :: l => by
    have := length_nf l
    simp only [nf, List.foldr_cons] at *
    have := length_ins (lt := lt) x (List.foldr (ins lt) [] l)
    simp only [List.length_cons]; omega
def cmpt [DecidableEq α] : List α → List α
  | [] => []
  | [x] => [x]
  | x :: y :: l => if x = y then cmpt (y :: l) else x :: cmpt (y :: l)
theorem mem_cmpt [DecidableEq α] (z : α) : ∀ l : List α, z ∈ cmpt l ↔ z ∈ l
  | [] => by simp [cmpt]
  | [x] => by simp [cmpt]
  | x :: y :: l => by
    have := mem_cmpt z (y :: l)
    unfold cmpt
    split
    · rename_i h; subst h; rw [this]; simp
    · rw [List.mem_cons, this, List.mem_cons]; simp
def Wk (lt : α → α → Bool) (l : List α) : Prop := l.Pairwise (fun a b => lt b a = false)
theorem srt_cmpt [DecidableEq α] (O : STO lt) : ∀ l : List α, Wk lt l → Srt lt (cmpt l)
  | [], _ => by simp [cmpt, Srt]
  | [x], _ => by simp [cmpt, Srt]
  | x :: y :: l, h => by
    have hx := List.pairwise_cons.1 h
    have ih := srt_cmpt O (y :: l) hx.2
    unfold cmpt
    split
    · exact ih
    · rename_i hne
      refine List.pairwise_cons.2 ⟨?_, ih⟩
      intro a ha
      have ha' := (mem_cmpt a (y :: l)).1 ha
      have hlt : lt x y = true := by
        have := hx.1 y (List.mem_cons_self)
        rcases O.total x y with e | e | e
        · exact e
        · exact absurd e hne
        · rw [this] at e; cases e
      rcases List.mem_cons.1 ha' with rfl | hm
      · exact hlt
      · have h2 := (List.pairwise_cons.1 hx.2).1 a hm
        rcases O.total y a with e | e | e
        · exact O.trans _ _ _ hlt e
        · subst e; exact hlt
        · rw [h2] at e; cases e
theorem cmpt_eq_nf [DecidableEq α] (O : STO lt) {l l' : List α} (h : Wk lt l') (hm : ∀ x, x ∈ l' ↔ x ∈ l) : cmpt l' = nf lt l :=
  eq_nf O (srt_cmpt O l' h) fun x => (mem_cmpt x l').trans (hm x)
end
abbrev E := Int × Int × Int
abbrev S := Int × Int
def ltE (a b : E) : Bool := decide (a.1 < b.1) || (decide (a.1 = b.1) && (decide (a.2.1 < b.2.1) || (decide (a.2.1 = b.2.1) && decide (a.2.2 < b.2.2))))
def ltS (a b : S) : Bool := decide (a.1 < b.1) || (decide (a.1 = b.1) && decide (a.2 < b.2))
theorem ltE_iff (a b : E) : ltE a b = true ↔ a.1 < b.1 ∨ (a.1 = b.1 ∧ (a.2.1 < b.2.1 ∨ (a.2.1 = b.2.1 ∧ a.2.2 < b.2.2))) := by
  simp [ltE]
theorem ltS_iff (a b : S) : ltS a b = true ↔ a.1 < b.1 ∨ (a.1 = b.1 ∧ a.2 < b.2) := by
  simp [ltS]
theorem stoE : STO ltE where
  irrefl a := by rw [Bool.eq_false_iff]; intro h; rw [ltE_iff] at h; omega
  trans a b c h1 h2 := by rw [ltE_iff] at *; omega
  total a b := by
    rw [ltE_iff, ltE_iff]
    obtain ⟨a1, a2, a3⟩ := a; obtain ⟨b1, b2, b3⟩ := b
    simp only [Prod.mk.injEq]; omega
theorem stoS : STO ltS where
  irrefl a := by rw [Bool.eq_false_iff]; intro h; rw [ltS_iff] at h; omega
  trans a b c h1 h2 := by rw [ltS_iff] at *; omega
  total a b := by
    rw [ltS_iff, ltS_iff]
    obtain ⟨a1, a2⟩ := a; obtain ⟨b1, b2⟩ := b
    simp only [Prod.mk.injEq]; omega
end Pl
end Go.Proofs.YtffjcehopoaboaaGreatDoor
namespace Go.Proofs.YtffjcehopoaboaaGreatDoor
namespace Pl
structure Lts where
  st : Int
  lb : Int
  s0 : Int
  es : List E
theorem piece {key : E → Int} (i : Nat) : ∀ l : List E, l.Pairwise (fun a b => key a ≤ key b) →
    (l.drop (l.filter (fun x => decide (key x < (i : Int)))).length).take ((l.filter (fun x => decide (key x < ((i + 1 : Nat) : Int)))).length - (l.filter (fun x => decide (key x < (i : Int)))).length) = l.filter (fun x => key x == (i : Int))
  | [], _ => by simp
  | x :: l, h => by
    have hx := List.pairwise_cons.1 h
    have ih := piece i l hx.2
    rcases Int.lt_trichotomy (key x) i with h1 | h1 | h1
    · have b1 : decide (key x < (i : Int)) = true := by simp [h1]
      have b2 : decide (key x < ((i + 1 : Nat) : Int)) = true := by simp; omega
      have b3 : (key x == (i : Int)) = false := by simp; omega
      simp only [List.filter_cons, b1, b2, b3, if_true, Bool.false_eq_true, if_false, List.length_cons, List.drop_succ_cons, Nat.add_sub_add_right]
      exact ih
    · have hn : l.filter (fun x => decide (key x < (i : Int))) = [] := by
        rw [List.filter_eq_nil_iff]; intro y hy; have := hx.1 y hy; simp; omega
      have b1 : decide (key x < (i : Int)) = false := by simp; omega
      have b2 : decide (key x < ((i + 1 : Nat) : Int)) = true := by simp; omega
      have b3 : (key x == (i : Int)) = true := by simp [h1]
      rw [hn] at ih
      simp only [List.filter_cons, b1, b2, b3, if_true, Bool.false_eq_true, if_false, hn, List.length_cons, List.length_nil, List.drop_zero, Nat.sub_zero, List.take_succ_cons] at ih ⊢
      rw [ih]
    · have hn : l.filter (fun x => decide (key x < (i : Int))) = [] := by
        rw [List.filter_eq_nil_iff]; intro y hy; have := hx.1 y hy; simp; omega
      have hn2 : l.filter (fun x => decide (key x < ((i + 1 : Nat) : Int))) = [] := by
        rw [List.filter_eq_nil_iff]; intro y hy; have := hx.1 y hy; simp; omega
      have hn3 : l.filter (fun x => key x == (i : Int)) = [] := by
        rw [List.filter_eq_nil_iff]; intro y hy; have := hx.1 y hy; simp; omega
      have b1 : decide (key x < (i : Int)) = false := by simp; omega
      have b2 : decide (key x < ((i + 1 : Nat) : Int)) = false := by simp; omega
      have b3 : (key x == (i : Int)) = false := by simp; omega
      simp only [List.filter_cons, b1, b2, b3, Bool.false_eq_true, if_false, hn, hn2, hn3, List.length_nil, Nat.sub_zero, List.take_zero]
def frK (key : E → Int) (l : List E) (i : Nat) : Nat := (l.filter (fun x => decide (key x < (i : Int)))).length
theorem frK_le (key : E → Int) (l : List E) (i : Nat) : frK key l i ≤ l.length := List.length_filter_le _ _
theorem frK_mono (key : E → Int) (i : Nat) : ∀ l : List E, frK key l i ≤ frK key l (i + 1)
  | [] => by simp [frK]
  | x :: l => by
    have ih := frK_mono key i l
    unfold frK at *
    simp only [List.filter_cons]
    by_cases h1 : key x < (i : Int)
    · have b1 : decide (key x < (i : Int)) = true := by simp [h1]
      have b2 : decide (key x < ((i + 1 : Nat) : Int)) = true := by simp; omega
      simp only [b1, b2, if_true, List.length_cons]; omega
    · have b1 : decide (key x < (i : Int)) = false := by simp; omega
      simp only [b1, Bool.false_eq_true, if_false]
      split
      · simp only [List.length_cons]; omega
      · exact ih
def ltB (a b : E) : Bool := decide (a.2.2 < b.2.2) || (decide (a.2.2 = b.2.2) && (decide (a.2.1 < b.2.1) || (decide (a.2.1 = b.2.1) && decide (a.1 < b.1))))
theorem ltB_iff (a b : E) : ltB a b = true ↔ a.2.2 < b.2.2 ∨ (a.2.2 = b.2.2 ∧ (a.2.1 < b.2.1 ∨ (a.2.1 = b.2.1 ∧ a.1 < b.1))) := by
  simp [ltB]
theorem stoB : STO ltB where
  irrefl a := by rw [Bool.eq_false_iff]; intro h; rw [ltB_iff] at h; omega
  trans a b c h1 h2 := by rw [ltB_iff] at *; omega
  total a b := by
    rw [ltB_iff, ltB_iff]
    obtain ⟨a1, a2, a3⟩ := a; obtain ⟨b1, b2, b3⟩ := b
    simp only [Prod.mk.injEq]; omega
def Lts.outs (s : Lts) (i : Int) : List S := (s.es.filter (fun x => x.1 == i)).map (fun x => (x.2.1, x.2.2))
def Lts.ins (s : Lts) (i : Int) : List S := ((nf ltB s.es).filter (fun x => x.2.2 == i)).map (fun x => (x.2.1, x.1))
theorem srtE_key {l : List E} (h : Srt ltE l) : l.Pairwise (fun a b => a.1 ≤ b.1) :=
  h.imp (fun {a b} h => by rw [ltE_iff] at h; omega)
theorem srtB_key {l : List E} (h : Srt ltB l) : l.Pairwise (fun a b => a.2.2 ≤ b.2.2) :=
  h.imp (fun {a b} h => by rw [ltB_iff] at h; omega)
def HeadBad (st lb s0 : Int) (n : Nat) : Prop := st < 0 ∨ 1000 < st ∨ lb < 1 ∨ 201 < lb ∨ s0 < 0 ∨ (0 < s0 ∧ st ≤ s0) ∨ 10000 < (n : Int)
def offB (st lb : Int) (x : E) : Bool := decide (x.1 < 0) || decide (x.2.2 < 0) || decide (x.2.1 < 0) || decide (st ≤ x.1) || decide (st ≤ x.2.2) || decide (lb ≤ x.2.1)
theorem offB_false {st lb : Int} {x : E} : offB st lb x = false ↔ 0 ≤ x.1 ∧ x.1 < st ∧ 0 ≤ x.2.1 ∧ x.2.1 < lb ∧ 0 ≤ x.2.2 ∧ x.2.2 < st := by
  simp [offB]; omega
structure Lts.Right (s : Lts) : Prop where
  head : ¬ HeadBad s.st s.lb s.s0 s.es.length
  edges : ∀ x ∈ s.es, offB s.st s.lb x = false
theorem Lts.Right.st0 {s : Lts} (h : s.Right) : 0 ≤ s.st ∧ s.st ≤ 1000 ∧ 1 ≤ s.lb ∧ s.lb ≤ 201 ∧ 0 ≤ s.s0 ∧ (s.s0 = 0 ∨ s.s0 < s.st) ∧ s.es.length ≤ 10000 := by
  have := h.head; unfold HeadBad at this; omega
def Lts.norm (s : Lts) : Lts := { s with es := nf ltE s.es }
theorem Lts.Right.norm {s : Lts} (h : s.Right) : s.norm.Right :=
  ⟨by have h1 := h.head; have h2 := length_nf (lt := ltE) s.es; unfold HeadBad at *; simp only [Lts.norm]; omega,
    fun x hx => h.edges x ((mem_nf stoE x s.es).1 hx)⟩
theorem mem_outs {s : Lts} {i : Int} {y : S} : y ∈ s.outs i ↔ (i, y.1, y.2) ∈ s.es := by
  unfold Lts.outs
  simp only [List.mem_map, List.mem_filter, beq_iff_eq]
  constructor
  · rintro ⟨x, ⟨hx, rfl⟩, rfl⟩; exact hx
  · intro h; exact ⟨_, ⟨h, rfl⟩, rfl⟩
theorem mem_inS {s : Lts} {i : Int} {y : S} : y ∈ s.ins i ↔ (y.2, y.1, i) ∈ s.es := by
  unfold Lts.ins
  simp only [List.mem_map, List.mem_filter, beq_iff_eq, mem_nf stoB]
  constructor
  · rintro ⟨x, ⟨hx, rfl⟩, rfl⟩; exact hx
  · intro h; exact ⟨_, ⟨h, rfl⟩, rfl⟩
theorem outs_srt {s : Lts} (h : Srt ltE s.es) (i : Int) : Srt ltS (s.outs i) := by
  unfold Lts.outs Srt
  rw [List.pairwise_map]
  have h1 := List.Pairwise.filter (fun x => x.1 == i) h
  refine List.Pairwise.imp_of_mem (R := fun a b => ltE a b = true) ?_ h1
  intro a b ha hb hab
  have ha' := (List.mem_filter.1 ha).2; have hb' := (List.mem_filter.1 hb).2
  simp only [beq_iff_eq] at ha' hb'
  rw [ltE_iff] at hab; rw [ltS_iff]; simp only; omega
end Pl
end Go.Proofs.YtffjcehopoaboaaGreatDoor

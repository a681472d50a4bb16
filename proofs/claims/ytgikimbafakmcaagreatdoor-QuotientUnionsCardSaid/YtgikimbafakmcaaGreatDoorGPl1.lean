/-
  Lemmas.
-/
namespace Go.Proofs.YtgikimbafakmcaaGreatDoor
namespace Pl
structure STO {α : Type} (lt : α -> α -> Bool) : Prop where
  irrefl : ∀ a, lt a a = false
  trans : ∀ a b c, lt a b = true -> lt b c = true -> lt a c = true
  total : ∀ a b, lt a b = true ∨ a = b ∨ lt b a = true
section
variable {α : Type} {lt : α -> α -> Bool}
def Srt (lt : α -> α -> Bool) (l : List α) : Prop := l.Pairwise (fun a b => lt a b = true)
def ins (lt : α -> α -> Bool) (e : α) : List α -> List α
  | [] => [e]
  | x :: l => if lt e x then e :: x :: l else if lt x e then x :: ins lt e l else x :: l
def nf (lt : α -> α -> Bool) (l : List α) : List α := l.foldr (ins lt) []
theorem mem_ins (O : STO lt) (e y : α) : ∀ l, y ∈ ins lt e l ↔ y = e ∨ y ∈ l
  | [] => by simp [ins]
  | x :: l => by
    unfold ins
    split
    · simp
    · rename_i h1
      split
      · rename_i h2
        simp only [List.mem_cons, mem_ins O e y l]
        constructor <;> (intro h; rcases h with h | h | h <;> simp [h])
      · rename_i h2
        have : e = x := by rcases O.total e x with h | h | h <;> simp_all
        subst this
        simp
theorem srt_ins (O : STO lt) (e : α) : ∀ l, Srt lt l -> Srt lt (ins lt e l)
  | [], _ => by simp [ins, Srt]
  | x :: l, h => by
    have hx := List.pairwise_cons.1 h
    unfold ins
    split
    · rename_i h1
      refine List.pairwise_cons.2 ⟨?_, h⟩
      intro a ha
      rcases List.mem_cons.1 ha with rfl | ha
      · exact h1
      · exact O.trans _ _ _ h1 (hx.1 a ha)
    · split
      · rename_i h2
        refine List.pairwise_cons.2 ⟨?_, srt_ins O e l hx.2⟩
        intro a ha
        rcases (mem_ins O e a l).1 ha with rfl | ha
        · exact h2
        · exact hx.1 a ha
      · exact h
theorem mem_nf (O : STO lt) (y : α) : ∀ l, y ∈ nf lt l ↔ y ∈ l
  | [] => by simp [nf]
  | x :: l => by
    have := mem_nf O y l
    simp only [nf, List.foldr_cons] at *
    rw [mem_ins O, this, List.mem_cons]
theorem srt_nf (O : STO lt) : ∀ l, Srt lt (nf lt l)
  | [] => by simp [nf, Srt]
  | x :: l => by
    have := srt_nf O l
    simp only [nf, List.foldr_cons] at *
    exact srt_ins O x _ this
theorem srt_ext (O : STO lt) : ∀ l1 l2, Srt lt l1 -> Srt lt l2 -> (∀ x, x ∈ l1 ↔ x ∈ l2) -> l1 = l2
  | [], [], _, _, _ => rfl
  | [], y :: l2, _, _, h => absurd ((h y).2 (List.mem_cons_self)) (by simp)
  | x :: l1, [], _, _, h => absurd ((h x).1 (List.mem_cons_self)) (by simp)
  | x :: l1, y :: l2, h1, h2, h => by
    have a1 := List.pairwise_cons.1 h1
    have a2 := List.pairwise_cons.1 h2
    have hxy : x = y := by
      have p1 := (h x).1 (List.mem_cons_self)
      have p2 := (h y).2 (List.mem_cons_self)
      rcases List.mem_cons.1 p1 with e | m1
      · exact e
      rcases List.mem_cons.1 p2 with e | m2
      · exact e.symm
      have q1 := a2.1 x m1
      have q2 := a1.1 y m2
      have := O.trans _ _ _ q1 q2
      rw [O.irrefl] at this
      cases this
    subst hxy
    have : l1 = l2 := by
      refine srt_ext O l1 l2 a1.2 a2.2 fun z => ⟨fun hz => ?_, fun hz => ?_⟩
      · rcases List.mem_cons.1 ((h z).1 (List.mem_cons_of_mem _ hz)) with e | m
        · subst e
          have := a1.1 z hz
          rw [O.irrefl] at this; cases this
        · exact m
      · rcases List.mem_cons.1 ((h z).2 (List.mem_cons_of_mem _ hz)) with e | m
        · subst e
          have := a2.1 z hz
          rw [O.irrefl] at this; cases this
        · exact m
    rw [this]
theorem eq_nf (O : STO lt) {l l' : List α} (h : Srt lt l') (hm : ∀ x, x ∈ l' ↔ x ∈ l) : l' = nf lt l :=
  srt_ext O _ _ h (srt_nf O l) fun x => (hm x).trans (mem_nf O x l).symm
theorem nf_congr (O : STO lt) {l l' : List α} (hm : ∀ x, x ∈ l' ↔ x ∈ l) : nf lt l' = nf lt l :=
  eq_nf O (srt_nf O l') fun x => (mem_nf O x l').trans (hm x)
theorem length_ins (e : α) : ∀ l, (ins lt e l).length <= l.length + 1
  | [] => by simp [ins]
  | x :: l => by
    have := length_ins e l
    unfold ins; split
    · simp
    · split <;> simp <;> omega
theorem length_nf : ∀ l : List α, (nf lt l).length <= l.length
  | [] => by simp [nf]
  | x :: l => by
    have := length_nf l
    simp only [nf, List.foldr_cons] at *
    have := length_ins (lt := lt) x (List.foldr (ins lt) [] l)
    simp only [List.length_cons]; omega
def cmpt [DecidableEq α] : List α -> List α
  | [] => []
  | [x] => [x]
  | x :: y :: l => if x = y then cmpt (y :: l) else x :: cmpt (y :: l)
theorem mem_cmpt [DecidableEq α] (z : α) : ∀ l : List α, z ∈ cmpt l ↔ z ∈ l
  | [] => by simp [cmpt]
  | [x] => by simp [cmpt]
  | x :: y :: l => by
    have := mem_cmpt z (y :: l)
    unfold cmpt
    split
    · rename_i h; subst h; rw [this]; simp
    · rw [List.mem_cons, this, List.mem_cons]; simp
def Wk (lt : α -> α -> Bool) (l : List α) : Prop := l.Pairwise (fun a b => lt b a = false)
theorem srt_cmpt [DecidableEq α] (O : STO lt) : ∀ l : List α, Wk lt l -> Srt lt (cmpt l)
  | [], _ => by simp [cmpt, Srt]
  | [x], _ => by simp [cmpt, Srt]
  | x :: y :: l, h => by
    have hx := List.pairwise_cons.1 h
    have ih := srt_cmpt O (y :: l) hx.2
    unfold cmpt
    split
    · exact ih
    · rename_i hne
      refine List.pairwise_cons.2 ⟨?_, ih⟩
      intro a ha
      have ha' := (mem_cmpt a (y :: l)).1 ha
      have hlt : lt x y = true := by
        have := hx.1 y (List.mem_cons_self)
        rcases O.total x y with e | e | e
        · exact e
        · exact absurd e hne
        · rw [this] at e; cases e
      rcases List.mem_cons.1 ha' with rfl | hm
      · exact hlt
      · have h2 := (List.pairwise_cons.1 hx.2).1 a hm
        rcases O.total y a with e | e | e
        · exact O.trans _ _ _ hlt e
        · subst e; exact hlt
        · rw [h2] at e; cases e
theorem cmpt_eq_nf [DecidableEq α] (O : STO lt) {l l' : List α} (h : Wk lt l') (hm : ∀ x, x ∈ l' ↔ x ∈ l) : cmpt l' = nf lt l :=
  eq_nf O (srt_cmpt O l' h) fun x => (mem_cmpt x l').trans (hm x)
end
abbrev E := Int × Int × Int
abbrev S := Int × Int
def ltE (a b : E) : Bool := decide (a.1 < b.1) || (decide (a.1 = b.1) && (decide (a.2.1 < b.2.1) || (decide (a.2.1 = b.2.1) && decide (a.2.2 < b.2.2))))
theorem ltE_iff (a b : E) : ltE a b = true ↔ a.1 < b.1 ∨ (a.1 = b.1 /\ (a.2.1 < b.2.1 ∨ (a.2.1 = b.2.1 /\ a.2.2 < b.2.2))) := by
 simp [ltE]
theorem stoE : STO ltE where
  irrefl a := by rw [Bool.eq_false_iff]; intro h; rw [ltE_iff] at h; omega
  trans a b c h1 h2 := by rw [ltE_iff] at *; omega
  total a b := by
    rw [ltE_iff, ltE_iff]
    obtain ⟨a1, a2, a3⟩ := a; obtain ⟨b1, b2, b3⟩ := b
    simp only [Prod.mk.injEq]; omega
end Pl
end Go.Proofs.YtgikimbafakmcaaGreatDoor
namespace Go.Proofs.YtgikimbafakmcaaGreatDoor
namespace Pl
structure Lts where
  st : Int
  lb : Int
  s0 : Int
  es : List E
theorem piece {key : E -> Int} (i : Nat) : ∀ l : List E, l.Pairwise (fun a b => key a <= key b) ->
    (l.drop (l.filter (fun x => decide (key x < (i : Int)))).length).take ((l.filter (fun x => decide (key x < ((i + 1 : Nat) : Int)))).length - (l.filter (fun x => decide (key x < (i : Int)))).length) = l.filter (fun x => key x == (i : Int))
  | [], _ => by simp
  | x :: l, h => by
    have hx := List.pairwise_cons.1 h
    have ih := piece i l hx.2
    rcases Int.lt_trichotomy (key x) i with h1 | h1 | h1
    · have b1 : decide (key x < (i : Int)) = true := by simp [h1]
      have b2 : decide (key x < ((i + 1 : Nat) : Int)) = true := by simp; omega
      have b3 : (key x == (i : Int)) = false := by simp; omega
      simp only [List.filter_cons, b1, b2, b3, if_true, Bool.false_eq_true, if_false, List.length_cons, List.drop_succ_cons, Nat.add_sub_add_right]
      exact ih
    · have hn : l.filter (fun x => decide (key x < (i : Int))) = [] := by
        rw [List.filter_eq_nil_iff]; intro y hy; have := hx.1 y hy; simp; omega
      have b1 : decide (key x < (i : Int)) = false := by simp; omega
      have b2 : decide (key x < ((i + 1 : Nat) : Int)) = true := by simp; omega
      have b3 : (key x == (i : Int)) = true := by simp [h1]
      rw [hn] at ih
      simp only [List.filter_cons, b1, b2, b3, if_true, Bool.false_eq_true, if_false, hn, List.length_cons, List.length_nil, List.drop_zero, Nat.sub_zero, List.take_succ_cons] at ih ⊢
      rw [ih]
    · have hn : l.filter (fun x => decide (key x < (i : Int))) = [] := by
        rw [List.filter_eq_nil_iff]; intro y hy; have := hx.1 y hy; simp; omega
      have hn2 : l.filter (fun x => decide (key x < ((i + 1 : Nat) : Int))) = [] := by
        rw [List.filter_eq_nil_iff]; intro y hy; have := hx.1 y hy; simp; omega
      have hn3 : l.filter (fun x => key x == (i : Int)) = [] := by
        rw [List.filter_eq_nil_iff]; intro y hy; have := hx.1 y hy; simp; omega
      have b1 : decide (key x < (i : Int)) = false := by simp; omega
      have b2 : decide (key x < ((i + 1 : Nat) : Int)) = false := by simp; omega
      have b3 : (key x == (i : Int)) = false := by simp; omega
      simp only [List.filter_cons, b1, b2, b3, Bool.false_eq_true, if_false, hn, hn2, hn3, List.length_nil, Nat.sub_zero, List.take_zero]
def frK (key : E -> Int) (l : List E) (i : Nat) : Nat := (l.filter (fun x => decide (key x < (i : Int)))).length
theorem frK_le (key : E -> Int) (l : List E) (i : Nat) : frK key l i <= l.length := List.length_filter_le _ _
theorem frK_mono (key : E -> Int) (i : Nat) : ∀ l : List E, frK key l i <= frK key l (i + 1)
  | [] => by simp [frK]
  | x :: l => by
    have ih := frK_mono key i l
    unfold frK at *
    simp only [List.filter_cons]
    by_cases h1 : key x < (i : Int)
    · have b1 : decide (key x < (i : Int)) = true := by simp [h1]
      have b2 : decide (key x < ((i + 1 : Nat) : Int)) = true := by simp; omega
      simp only [b1, b2, if_true, List.length_cons]; omega
    · have b1 : decide (key x < (i : Int)) = false := by simp; omega
      simp only [b1, Bool.false_eq_true, if_false]
      split
      · simp only [List.length_cons]; omega
      · exact ih
def ltB (a b : E) : Bool := decide (a.2.2 < b.2.2) || (decide (a.2.2 = b.2.2) && (decide (a.2.1 < b.2.1) || (decide (a.2.1 = b.2.1) && decide (a.1 < b.1))))
theorem ltB_iff (a b : E) : ltB a b = true ↔ a.2.2 < b.2.2 ∨ (a.2.2 = b.2.2 /\ (a.2.1 < b.2.1 ∨ (a.2.1 = b.2.1 /\ a.1 < b.1))) := by
 simp [ltB]
theorem stoB : STO ltB where
  irrefl a := by rw [Bool.eq_false_iff]; intro h; rw [ltB_iff] at h; omega
  trans a b c h1 h2 := by rw [ltB_iff] at *; omega
  total a b := by
    rw [ltB_iff, ltB_iff]
    obtain ⟨a1, a2, a3⟩ := a; obtain ⟨b1, b2, b3⟩ := b
    simp only [Prod.mk.injEq]; omega
def Lts.outs (s : Lts) (i : Int) : List S := (s.es.filter (fun x => x.1 == i)).map (fun x => (x.2.1, x.2.2))
def Lts.ins (s : Lts) (i : Int) : List S := ((nf ltB s.es).filter (fun x => x.2.2 == i)).map (fun x => (x.2.1, x.1))
theorem srtE_key {l : List E} (h : Srt ltE l) : l.Pairwise (fun a b => a.1 <= b.1) :=
  h.imp (fun {a b} h => by rw [ltE_iff] at h; omega)
theorem srtB_key {l : List E} (h : Srt ltB l) : l.Pairwise (fun a b => a.2.2 <= b.2.2) :=
  h.imp (fun {a b} h => by rw [ltB_iff] at h; omega)
def HeadBad (st lb s0 : Int) (n : Nat) : Prop := st < 0 ∨ 1000 < st ∨ lb < 1 ∨ 201 < lb ∨ s0 < 0 ∨ (0 < s0 /\ st <= s0) ∨ 10000 < (n : Int)
def offB (st lb : Int) (x : E) : Bool := decide (x.1 < 0) || decide (x.2.2 < 0) || decide (x.2.1 < 0) || decide (st <= x.1) || decide (st <= x.2.2) || decide (lb <= x.2.1)
theorem offB_false {st lb : Int} {x : E} : offB st lb x = false ↔ 0 <= x.1 /\ x.1 < st /\ 0 <= x.2.1 /\ x.2.1 < lb /\ 0 <= x.2.2 /\ x.2.2 < st := by
 simp [offB]; omega
structure Lts.Right (s : Lts) : Prop where
  head : ¬ HeadBad s.st s.lb s.s0 s.es.length
  edges : ∀ x ∈ s.es, offB s.st s.lb x = false
theorem Lts.Right.st0 {s : Lts} (h : s.Right) : 0 <= s.st /\ s.st <= 1000 /\ 1 <= s.lb /\ s.lb <= 201 /\ 0 <= s.s0 /\ (s.s0 = 0 ∨ s.s0 < s.st) /\ s.es.length <= 10000 := by
 have := h.head; unfold HeadBad at this; omega
def Lts.norm (s : Lts) : Lts := { s with es := nf ltE s.es }
theorem Lts.Right.norm {s : Lts} (h : s.Right) : s.norm.Right :=
  ⟨by have h1 := h.head; have h2 := length_nf (lt := ltE) s.es; unfold HeadBad at *; simp only [Lts.norm]; omega,
    fun x hx => h.edges x ((mem_nf stoE x s.es).1 hx)⟩
theorem mem_outs {s : Lts} {i : Int} {y : S} : y ∈ s.outs i ↔ (i, y.1, y.2) ∈ s.es := by
 unfold Lts.outs
 simp only [List.mem_map, List.mem_filter, beq_iff_eq]
 constructor
 · rintro ⟨x, ⟨hx, rfl⟩, rfl⟩; exact hx
 · intro h; exact ⟨_, ⟨h, rfl⟩, rfl⟩
theorem mem_inS {s : Lts} {i : Int} {y : S} : y ∈ s.ins i ↔ (y.2, y.1, i) ∈ s.es := by
 unfold Lts.ins
 simp only [List.mem_map, List.mem_filter, beq_iff_eq, mem_nf stoB]
 constructor
 · rintro ⟨x, ⟨hx, rfl⟩, rfl⟩; exact hx
 · intro h; exact ⟨_, ⟨h, rfl⟩, rfl⟩
end Pl
end Go.Proofs.YtgikimbafakmcaaGreatDoor
namespace Go.Proofs.YtgikimbafakmcaaGreatDoor
namespace Pl
def taus (s : Lts) (x : Nat) : List Nat := ((s.outs (x : Int)).takeWhile (fun y => y.1 == 0)).map (fun y => y.2.toNat)
def upd {α : Type} (f : Nat -> α) (k : Nat) (v : α) : Nat -> α := fun i => if i = k then v else f i
theorem upd_same {α : Type} (f : Nat -> α) (k : Nat) (v : α) : upd f k v k = v := by simp [upd]
theorem upd_other {α : Type} (f : Nat -> α) {k i : Nat} (v : α) (h : i ≠ k) : upd f k v i = f i := by simp [upd, h]
structure TS where
  low : Nat -> Int
  num : Nat -> Int
  cls : Nat -> Int
  opn : List Nat
  met : Int
  found : Int
section
variable {s : Lts} {n : Nat} {t : TS} {K : List Nat} {nx : Nat -> Nat}
def TS.enter (t : TS) (y : Nat) : TS := ⟨upd t.low y (t.met + 1), upd t.num y (t.met + 1), t.cls, y :: t.opn, t.met + 1, t.found⟩
end
end Pl
end Go.Proofs.YtgikimbafakmcaaGreatDoor
namespace Go.Proofs.YtgikimbafakmcaaGreatDoor
namespace Pl
def ltI (a b : Int) : Bool := decide (a < b)
theorem stoI : STO ltI where
  irrefl a := by simp [ltI]
  trans a b c h1 h2 := by simp [ltI] at *; omega
  total a b := by simp [ltI]; omega
def Rch (s : Lts) (x : Int) : Prop := ∀ P : Int -> Prop, P s.s0 -> (∀ a l b, P a -> (a, l, b) ∈ s.es -> P b) -> P x
theorem Rch.start (s : Lts) : Rch s s.s0 := fun _ h _ => h
theorem Rch.step {s : Lts} {a l b : Int} (h : Rch s a) (he : (a, l, b) ∈ s.es) : Rch s b := fun P h0 h1 => h1 a l b (h P h0 h1) he
theorem nodup_len {L : List Int} {n : Nat} (h : L.Nodup) (hr : ∀ x ∈ L, 0 <= x /\ x < (n : Int)) : L.length <= n := by
 have : L ⊆ (List.range n).map Int.ofNat := by (
 intro x hx
 have := hr x hx
 rw [List.mem_map]
 exact ⟨x.toNat, by rw [List.mem_range]; omega, by simp; omega⟩)
 have := List.Nodup.length_le_of_subset h this
 simpa using this
structure Bfs (s : Lts) (L : List Int) (i : Nat) : Prop where
  nd : L.Nodup
  rng : ∀ x ∈ L, 0 <= x /\ x < s.st
  rch : ∀ x ∈ L, Rch s x
  s0 : s.s0 ∈ L
  done : ∀ k x, k < i -> L[k]? = some x -> ∀ y ∈ s.outs x, y.2 ∈ L
theorem Bfs.start {s : Lts} (h : s.Right) (h0 : s.st ≠ 0) : Bfs s [s.s0] 0 where
  nd := by simp
  rng x hx := by have := h.st0; simp at hx; subst hx; omega
  rch x hx := by simp at hx; subst hx; exact Rch.start s
  s0 := by simp
  done k x hk := by omega
theorem Bfs.len {s : Lts} {L : List Int} {i : Nat} (h : Bfs s L i) : L.length <= s.st.toNat :=
  nodup_len h.nd (fun x hx => by have := h.rng x hx; omega)
theorem Bfs.push {s : Lts} (hr : s.Right) {L : List Int} {i : Nat} {x : Int} {y : S} (h : Bfs s L i) (hx : L[i]? = some x) (hy : y ∈ s.outs x) (hn : y.2 ∉ L) : Bfs s (L ++ [y.2]) i where
  nd := by rw [List.nodup_append]; exact ⟨h.nd, by simp, by intro a ha b hb; simp at hb; subst hb; intro e; subst e; exact hn ha⟩
  rng z hz := by
    rcases List.mem_append.1 hz with h1 | h1
    · exact h.rng z h1
    · simp at h1; subst h1
      have := offB_false.1 (hr.edges _ (mem_outs.1 hy))
      exact ⟨this.2.2.2.2.1, this.2.2.2.2.2⟩
  rch z hz := by
    rcases List.mem_append.1 hz with h1 | h1
    · exact h.rch z h1
    · simp at h1; subst h1; exact (h.rch x (List.mem_of_getElem? hx)).step (mem_outs.1 hy)
  s0 := List.mem_append_left _ h.s0
  done k z hk hz w hw := by
    have hlt : k < L.length := by have := (List.getElem?_eq_some_iff.1 hx).1; omega
    rw [List.getElem?_append_left hlt] at hz
    exact List.mem_append_left _ (h.done k z hk hz w hw)
theorem Bfs.next {s : Lts} {L : List Int} {i : Nat} {x : Int} (h : Bfs s L i) (hx : L[i]? = some x) (ha : ∀ y ∈ s.outs x, y.2 ∈ L) : Bfs s L (i + 1) where
  nd := h.nd
  rng := h.rng
  rch := h.rch
  s0 := h.s0
  done k z hk hz := by
    by_cases hki : k = i
    · subst hki; rw [hx] at hz; simp at hz; subst hz; exact ha
    · exact h.done k z (by omega) hz
theorem Bfs.all {s : Lts} {L : List Int} (h : Bfs s L L.length) (x : Int) : x ∈ L ↔ Rch s x := by
 refine ⟨h.rch x, fun hr => hr (· ∈ L) h.s0 ?_⟩
 intro a l b ha he
 obtain ⟨k, hk, rfl⟩ := List.getElem_of_mem ha
 exact h.done k _ hk (List.getElem?_eq_getElem hk) (l, b) (mem_outs.2 he)
open Classical in
noncomputable def reachL (s : Lts) : List Int := ((List.range s.st.toNat).map Int.ofNat).filter (fun x => decide (Rch s x))
theorem Rch.rng {s : Lts} (h : s.Right) (h0 : s.st ≠ 0) {x : Int} (hx : Rch s x) : 0 <= x /\ x < s.st := by
 have := h.st0
 refine hx (fun x => 0 <= x /\ x < s.st) (by omega) ?_
 intro a l b _ he
 have := offB_false.1 (h.edges _ he)
 exact ⟨this.2.2.2.2.1, this.2.2.2.2.2⟩
theorem mem_reachL {s : Lts} (h : s.Right) (h0 : s.st ≠ 0) {x : Int} : x ∈ reachL s ↔ Rch s x := by
 unfold reachL
 simp only [List.mem_filter, List.mem_map, List.mem_range, decide_eq_true_eq]
 constructor
 · rintro ⟨_, h⟩; exact h
 · intro hx
   have := hx.rng h h0
   exact ⟨⟨x.toNat, by omega, by simp; omega⟩, hx⟩
theorem reachL_srt (s : Lts) : Srt ltI (reachL s) := by
 classical
 refine List.Pairwise.filter _ ?_
 rw [List.pairwise_map]
 refine List.pairwise_lt_range.imp (fun {a b} h => ?_)
 simp [ltI]; omega
theorem reach_of {s : Lts} (h : s.Right) (h0 : s.st ≠ 0) {L : List Int} (hb : Bfs s L L.length) : L.mergeSort (fun x y => decide (x <= y)) = reachL s := by
 have hp := List.mergeSort_perm L (fun x y => decide (x <= y))
 refine srt_ext stoI _ _ ?_ (reachL_srt s) (fun x => ?_)
 · have hs := List.pairwise_mergeSort (le := fun (x y : Int) => decide (x <= y)) (fun a b c h1 h2 => by simp at *; omega) (fun a b => by simp; omega) L
   have hnd := hp.nodup_iff.2 hb.nd
   exact List.Pairwise.imp₂ (fun a b h1 h2 => by simp [ltI] at *; omega) hs hnd
 · rw [hp.mem_iff, hb.all, mem_reachL h h0]
theorem reachL_len {s : Lts} : (reachL s).length <= s.st.toNat := by
 unfold reachL
 refine Nat.le_trans (List.length_filter_le _ _) (by simp)
end Pl
end Go.Proofs.YtgikimbafakmcaaGreatDoor
namespace Go.Proofs.YtgikimbafakmcaaGreatDoor
namespace Pl
def addN (s : List Int) (x : Int) : List Int := if x ∈ s then s else s ++ [x]
def dist (l : List Int) : List Int := l.foldl addN []
theorem dist_snoc (l : List Int) (x : Int) : dist (l ++ [x]) = addN (dist l) x := by simp [dist, List.foldl_append]
theorem mem_addN {s : List Int} {x y : Int} : y ∈ addN s x ↔ y ∈ s ∨ y = x := by
 unfold addN; split
 · constructor
   · exact Or.inl
   · rintro (h | rfl)
     · exact h
     · assumption
 · simp
theorem rev_ind {P : List Int -> Prop} (h0 : P []) (h1 : ∀ l x, P l -> P (l ++ [x])) (l : List Int) : P l := by
 have : ∀ m : List Int, P m.reverse := by (
 intro m
 induction m with
 | nil => exact h0
 | cons x m ih => rw [List.reverse_cons]; exact h1 _ _ ih)
 simpa using this l.reverse
theorem mem_dist {x : Int} (l : List Int) : x ∈ dist l ↔ x ∈ l := by
 induction l using rev_ind with
 | h0 => simp [dist]
 | h1 l y ih => rw [dist_snoc, mem_addN, ih]; simp
theorem nodup_dist (l : List Int) : (dist l).Nodup := by
 induction l using rev_ind with
 | h0 => simp [dist]
 | h1 l y ih => (
 rw [dist_snoc]; unfold addN; split
 · exact ih
 · rw [List.nodup_append]; exact ⟨ih, by simp, by intro a ha b hb e; simp at hb; subst hb; subst e; contradiction⟩)
theorem dist_len (l : List Int) : (dist l).length <= l.length := by
 induction l using rev_ind with
 | h0 => simp [dist]
 | h1 l y ih => rw [dist_snoc]; unfold addN; split <;> simp <;> omega
theorem idx_addN {s : List Int} {x y : Int} (h : y ∈ s) : (addN s x).idxOf y = s.idxOf y := by
 unfold addN; split
 · rfl
 · rw [List.idxOf_append]; simp [h]
theorem idx_new {s : List Int} {x : Int} (h : x ∉ s) : (addN s x).idxOf x = s.length := by
 unfold addN; rw [if_neg h, List.idxOf_append]; simp [h]
theorem idx_append (l m : List Int) {y : Int} (h : y ∈ l) : (dist (l ++ m)).idxOf y = (dist l).idxOf y := by
 induction m using rev_ind with
 | h0 => simp
 | h1 m x ih => rw [<- List.append_assoc, dist_snoc, idx_addN ((mem_dist _).2 (by simp [h])), ih]
def canon (l : List Int) : List Int := l.map (fun x => ((dist l).idxOf x : Int))
theorem canon_len (l : List Int) : (canon l).length = l.length := by simp [canon]
theorem canon_get (l : List Int) (i : Nat) : (canon l)[i]? = l[i]?.map (fun x => ((dist l).idxOf x : Int)) := by simp [canon]
theorem idx_inj {l : List Int} {x y : Int} (hx : x ∈ l) (hy : y ∈ l) (h : l.idxOf x = l.idxOf y) : x = y := by
 have h1 := List.getElem_idxOf (List.idxOf_lt_length_of_mem hx)
 have h2 := List.getElem_idxOf (List.idxOf_lt_length_of_mem hy)
 rw [<- h1, <- h2]
 congr 1
theorem addN_map {f : Int -> Int} {s : List Int} {x : Int} (hf : ∀ y ∈ s, f y = f x -> y = x) : addN (s.map f) (f x) = (addN s x).map f := by
 unfold addN
 by_cases h : x ∈ s
 · rw [if_pos h, if_pos (List.mem_map_of_mem h)]
 · rw [if_neg h, if_neg]
   · simp
   · intro hm; obtain ⟨y, hy, e⟩ := List.mem_map.1 hm; exact h (hf y hy e ▸ hy)
theorem dist_map {f : Int -> Int} (l : List Int) (hf : ∀ x ∈ l, ∀ y ∈ l, f x = f y -> x = y) : dist (l.map f) = (dist l).map f := by
 induction l using rev_ind with
 | h0 => simp [dist]
 | h1 l y ih =>
   rw [List.map_append, List.map_cons, List.map_nil, dist_snoc, ih (fun a ha b hb => hf a (by simp [ha]) b (by simp [hb])), dist_snoc]
   exact addN_map (fun z hz => hf z (by simp [(mem_dist l).1 hz]) y (by simp))
theorem idx_map {f : Int -> Int} {x : Int} : ∀ l : List Int, (∀ y ∈ l, f y = f x -> y = x) -> (l.map f).idxOf (f x) = l.idxOf x
  | [], _ => rfl
  | y :: l, h => by
    have ih := idx_map l (fun z hz => h z (by simp [hz]))
    rw [List.map_cons, List.idxOf_cons, List.idxOf_cons]
    by_cases e : y = x
    · subst e; simp
    · have : ¬ f y = f x := fun e2 => e (h y (by simp) e2)
      simp only [beq_iff_eq, e, this, if_false, ih, cond_eq_ite]
theorem canon_map {f : Int -> Int} {l : List Int} (hf : ∀ x ∈ l, ∀ y ∈ l, f x = f y -> x = y) : canon (l.map f) = canon l := by
 unfold canon
 rw [List.map_map, dist_map l hf]
 apply List.map_congr_left
 intro x hx
 simp only [Function.comp]
 rw [idx_map _ (fun y hy => hf y ((mem_dist l).1 hy) x hx)]
theorem canon_canon (l : List Int) : canon (canon l) = canon l := by
 conv => lhs; arg 1; unfold canon
 exact canon_map (fun x hx y hy h => idx_inj ((mem_dist l).2 hx) ((mem_dist l).2 hy) (Int.ofNat.inj h))
theorem canon_eq_iff {l : List Int} {i k : Nat} {x y : Int} (hx : l[i]? = some x) (hy : l[k]? = some y) : ((dist l).idxOf x : Int) = ((dist l).idxOf y : Int) ↔ x = y := by
 constructor
 · intro h; exact idx_inj ((mem_dist l).2 (List.mem_of_getElem? hx)) ((mem_dist l).2 (List.mem_of_getElem? hy)) (Int.ofNat.inj h)
 · rintro rfl; rfl
def SameT (a b : List Int) : Prop := ∀ (i k : Nat) (x y x' y' : Int), k < i -> a[i]? = some x -> a[k]? = some y -> b[i]? = some x' -> b[k]? = some y' -> (x = y ↔ x' = y')
theorem sameT_canon {a b : List Int} (hl : a.length = b.length) : canon a = canon b ↔ SameT a b := by
 constructor
 · intro h i k x y x' y' _ hx hy hx' hy'
   have e1 := congrArg (fun l => l[i]?) h
   have e2 := congrArg (fun l => l[k]?) h
   simp only [canon_get, hx, hy, hx', hy', Option.map_some, Option.some.injEq] at e1 e2
   rw [<- canon_eq_iff hx hy, <- canon_eq_iff hx' hy', e1, e2]
 · (
 intro h
 have hs : ∀ (i k : Nat) (x y x' y' : Int), a[i]? = some x -> a[k]? = some y -> b[i]? = some x' -> b[k]? = some y' -> (x = y ↔ x' = y') := by (
 intro i k x y x' y' hx hy hx' hy'
 rcases Nat.lt_trichotomy k i with hlt | rfl | hlt
 · exact h i k x y x' y' hlt hx hy hx' hy'
 · rw [hx] at hy; rw [hx'] at hy'; simp at hy hy'; simp [hy, hy']
 · have := h k i y x y' x' hlt hy hx hy' hx'
   rw [eq_comm, this, eq_comm])
 have hb : b = a.map (fun x => b.getD (a.idxOf x) 0) := by (
 apply List.ext_getElem?
 intro i
 by_cases hi : i < a.length
 · (
 have hx := List.getElem?_eq_getElem hi
 have hx' := List.getElem?_eq_getElem (show i < b.length by omega)
 have hm : a[i] ∈ a := List.getElem_mem hi
 have hlt := List.idxOf_lt_length_of_mem hm
 have hj : a[a.idxOf a[i]]? = some a[i] := by rw [List.getElem?_eq_getElem hlt, List.getElem_idxOf hlt]
 have hj' := List.getElem?_eq_getElem (show a.idxOf a[i] < b.length by omega)
 rw [List.getElem?_map, hx, hx']
 simp only [Option.map_some, Option.some.injEq]
 rw [List.getD_eq_getElem?_getD, hj']
 simpa using (hs i _ _ _ _ _ hx hj hx' hj').1 rfl)
 · rw [List.getElem?_eq_none (by omega), List.getElem?_eq_none (by simp; omega)])
 rw [hb]
 refine (canon_map ?_).symm
 intro x hx y hy he
 obtain ⟨i, hi, rfl⟩ := List.getElem_of_mem hx
 obtain ⟨k, hk, rfl⟩ := List.getElem_of_mem hy
 have hm1 := List.idxOf_lt_length_of_mem hx
 have hm2 := List.idxOf_lt_length_of_mem hy
 have hj1 : a[a.idxOf a[i]]? = some a[i] := by rw [List.getElem?_eq_getElem hm1, List.getElem_idxOf hm1]
 have hj2 : a[a.idxOf a[k]]? = some a[k] := by rw [List.getElem?_eq_getElem hm2, List.getElem_idxOf hm2]
 rw [List.getD_eq_getElem?_getD, List.getD_eq_getElem?_getD, List.getElem?_eq_getElem (show a.idxOf a[i] < b.length by omega), List.getElem?_eq_getElem (show a.idxOf a[k] < b.length by omega)] at he
 exact (hs _ _ _ _ _ _ hj1 hj2 (List.getElem?_eq_getElem (by omega)) (List.getElem?_eq_getElem (by omega))).2 (by simpa using he))
end Pl
end Go.Proofs.YtgikimbafakmcaaGreatDoor
namespace Go.Proofs.YtgikimbafakmcaaGreatDoor
namespace Pl
end Pl
end Go.Proofs.YtgikimbafakmcaaGreatDoor
namespace Go.Proofs.YtgikimbafakmcaaGreatDoor
namespace Pl
def fl (n : Nat) (f : Nat -> Int) : List Int := (List.range n).map f
theorem fl_len (n : Nat) (f : Nat -> Int) : (fl n f).length = n := by simp [fl]
theorem fl_get {n : Nat} (f : Nat -> Int) {i : Nat} (h : i < n) : (fl n f)[i]? = some (f i) := by simp [fl, h]
def clf (n : Nat) (f : Nat -> Int) (x : Nat) : Int := ((dist (fl n f)).idxOf (f x) : Int)
theorem canon_fl (n : Nat) (f : Nat -> Int) : canon (fl n f) = fl n (clf n f) := by
 unfold canon fl clf
 rw [List.map_map]; rfl
theorem clf_eq {n : Nat} {f : Nat -> Int} {x y : Nat} (hx : x < n) (hy : y < n) : clf n f x = clf n f y ↔ f x = f y :=
  canon_eq_iff (fl_get f hx) (fl_get f hy)
theorem clf_rng {n : Nat} {f : Nat -> Int} {x : Nat} (hx : x < n) : 0 <= clf n f x /\ clf n f x < (dist (fl n f)).length := by
 have : f x ∈ dist (fl n f) := (mem_dist _).2 (List.mem_of_getElem? (fl_get f hx))
 have := List.idxOf_lt_length_of_mem this
 unfold clf; omega
end Pl
end Go.Proofs.YtgikimbafakmcaaGreatDoor

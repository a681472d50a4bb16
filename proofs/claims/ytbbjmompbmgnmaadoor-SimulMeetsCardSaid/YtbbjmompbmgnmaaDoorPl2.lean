/-
  Plain: systems, their rows of steps.
-/
import Derived.Test.YtbbjmompbmgnmaaDoorPl1
namespace Go.Proofs.YtbbjmompbmgnmaaDoor
namespace Pl

structure Lts where
  st : Int
  lb : Int
  s0 : Int
  es : List E

/-- A list that rises by a key: what has the key i lies in one piece. -/
theorem piece {key : E → Int} (i : Nat) : ∀ l : List E, l.Pairwise (fun a b => key a ≤ key b) →
    (l.drop (l.filter (fun x => decide (key x < (i : Int)))).length).take ((l.filter (fun x => decide (key x < ((i + 1 : Nat) : Int)))).length - (l.filter (fun x => decide (key x < (i : Int)))).length) = l.filter (fun x => key x == (i : Int))
  | [], _ => by simp
  | x :: l, h => by
    have hx := List.pairwise_cons.1 h
    have ih := piece i l hx.2
    rcases Int.lt_trichotomy (key x) i with h1 | h1 | h1
    · have b1 : decide (key x < (i : Int)) = true := by simp [h1]
      have b2 : decide (key x < ((i + 1 : Nat) : Int)) = true := by simp; omega
      have b3 : (key x == (i : Int)) = false := by simp; omega
      simp only [List.filter_cons, b1, b2, b3, if_true, Bool.false_eq_true, if_false, List.length_cons, List.drop_succ_cons, Nat.add_sub_add_right]
      exact ih
    · have hn : l.filter (fun x => decide (key x < (i : Int))) = [] := by
        rw [List.filter_eq_nil_iff]; intro y hy; have := hx.1 y hy; simp; omega
      have b1 : decide (key x < (i : Int)) = false := by simp; omega
      have b2 : decide (key x < ((i + 1 : Nat) : Int)) = true := by simp; omega
      have b3 : (key x == (i : Int)) = true := by simp [h1]
      rw [hn] at ih
      simp only [List.filter_cons, b1, b2, b3, if_true, Bool.false_eq_true, if_false, hn, List.length_cons, List.length_nil, List.drop_zero, Nat.sub_zero, List.take_succ_cons] at ih ⊢
      rw [ih]
    · have hn : l.filter (fun x => decide (key x < (i : Int))) = [] := by
        rw [List.filter_eq_nil_iff]; intro y hy; have := hx.1 y hy; simp; omega
      have hn2 : l.filter (fun x => decide (key x < ((i + 1 : Nat) : Int))) = [] := by
        rw [List.filter_eq_nil_iff]; intro y hy; have := hx.1 y hy; simp; omega
      have hn3 : l.filter (fun x => key x == (i : Int)) = [] := by
        rw [List.filter_eq_nil_iff]; intro y hy; have := hx.1 y hy; simp; omega
      have b1 : decide (key x < (i : Int)) = false := by simp; omega
      have b2 : decide (key x < ((i + 1 : Nat) : Int)) = false := by simp; omega
      have b3 : (key x == (i : Int)) = false := by simp; omega
      simp only [List.filter_cons, b1, b2, b3, Bool.false_eq_true, if_false, hn, hn2, hn3, List.length_nil, Nat.sub_zero, List.take_zero]

/-- Where the row i begins, of a list that rises by a key. -/
def frK (key : E → Int) (l : List E) (i : Nat) : Nat := (l.filter (fun x => decide (key x < (i : Int)))).length

theorem frK_le (key : E → Int) (l : List E) (i : Nat) : frK key l i ≤ l.length := List.length_filter_le _ _
theorem frK_mono (key : E → Int) (i : Nat) : ∀ l : List E, frK key l i ≤ frK key l (i + 1)
  | [] => by simp [frK]
  | x :: l => by
    have ih := frK_mono key i l
    unfold frK at *
    simp only [List.filter_cons]
    by_cases h1 : key x < (i : Int)
    · have b1 : decide (key x < (i : Int)) = true := by simp [h1]
      have b2 : decide (key x < ((i + 1 : Nat) : Int)) = true := by simp; omega
      simp only [b1, b2, if_true, List.length_cons]; omega
    · have b1 : decide (key x < (i : Int)) = false := by simp; omega
      simp only [b1, Bool.false_eq_true, if_false]
      split
      · simp only [List.length_cons]; omega
      · exact ih

/-- Edges by where they lead, then by label, then by where they come from. -/
def ltB (a b : E) : Bool := decide (a.2.2 < b.2.2) || (decide (a.2.2 = b.2.2) && (decide (a.2.1 < b.2.1) || (decide (a.2.1 = b.2.1) && decide (a.1 < b.1))))
theorem ltB_iff (a b : E) : ltB a b = true ↔ a.2.2 < b.2.2 ∨ (a.2.2 = b.2.2 ∧ (a.2.1 < b.2.1 ∨ (a.2.1 = b.2.1 ∧ a.1 < b.1))) := by
  simp [ltB]
theorem stoB : STO ltB where
  irrefl a := by rw [Bool.eq_false_iff]; intro h; rw [ltB_iff] at h; omega
  trans a b c h1 h2 := by rw [ltB_iff] at *; omega
  total a b := by
    rw [ltB_iff, ltB_iff]
    obtain ⟨a1, a2, a3⟩ := a; obtain ⟨b1, b2, b3⟩ := b
    simp only [Prod.mk.injEq]; omega

/-- What a state's steps are, and those to it. -/
def Lts.outs (s : Lts) (i : Int) : List S := (s.es.filter (fun x => x.1 == i)).map (fun x => (x.2.1, x.2.2))
def Lts.ins (s : Lts) (i : Int) : List S := ((nf ltB s.es).filter (fun x => x.2.2 == i)).map (fun x => (x.2.1, x.1))

theorem srtE_key {l : List E} (h : Srt ltE l) : l.Pairwise (fun a b => a.1 ≤ b.1) :=
  h.imp (fun {a b} h => by rw [ltE_iff] at h; omega)
theorem srtB_key {l : List E} (h : Srt ltB l) : l.Pairwise (fun a b => a.2.2 ≤ b.2.2) :=
  h.imp (fun {a b} h => by rw [ltB_iff] at h; omega)

/-- Is it a system? -/
def HeadBad (st lb s0 : Int) (n : Nat) : Prop := st < 0 ∨ 1000 < st ∨ lb < 1 ∨ 201 < lb ∨ s0 < 0 ∨ (0 < s0 ∧ st ≤ s0) ∨ 10000 < (n : Int)
def offB (st lb : Int) (x : E) : Bool := decide (x.1 < 0) || decide (x.2.2 < 0) || decide (x.2.1 < 0) || decide (st ≤ x.1) || decide (st ≤ x.2.2) || decide (lb ≤ x.2.1)
theorem offB_false {st lb : Int} {x : E} : offB st lb x = false ↔ 0 ≤ x.1 ∧ x.1 < st ∧ 0 ≤ x.2.1 ∧ x.2.1 < lb ∧ 0 ≤ x.2.2 ∧ x.2.2 < st := by
  simp [offB]; omega
structure Lts.Right (s : Lts) : Prop where
  head : ¬ HeadBad s.st s.lb s.s0 s.es.length
  edges : ∀ x ∈ s.es, offB s.st s.lb x = false

theorem Lts.Right.st0 {s : Lts} (h : s.Right) : 0 ≤ s.st ∧ s.st ≤ 1000 ∧ 1 ≤ s.lb ∧ s.lb ≤ 201 ∧ 0 ≤ s.s0 ∧ (s.s0 = 0 ∨ s.s0 < s.st) ∧ s.es.length ≤ 10000 := by
  have := h.head; unfold HeadBad at this; omega

/-- The normal form of a system. -/
def Lts.norm (s : Lts) : Lts := { s with es := nf ltE s.es }
theorem Lts.Right.norm {s : Lts} (h : s.Right) : s.norm.Right :=
  ⟨by have h1 := h.head; have h2 := length_nf (lt := ltE) s.es; unfold HeadBad at *; simp only [Lts.norm]; omega,
    fun x hx => h.edges x ((mem_nf stoE x s.es).1 hx)⟩
theorem Lts.norm_srt (s : Lts) : Srt ltE s.norm.es := srt_nf stoE _

theorem mem_outs {s : Lts} {i : Int} {y : S} : y ∈ s.outs i ↔ (i, y.1, y.2) ∈ s.es := by
  unfold Lts.outs
  simp only [List.mem_map, List.mem_filter, beq_iff_eq]
  constructor
  · rintro ⟨x, ⟨hx, rfl⟩, rfl⟩; exact hx
  · intro h; exact ⟨_, ⟨h, rfl⟩, rfl⟩
theorem mem_inS {s : Lts} {i : Int} {y : S} : y ∈ s.ins i ↔ (y.2, y.1, i) ∈ s.es := by
  unfold Lts.ins
  simp only [List.mem_map, List.mem_filter, beq_iff_eq, mem_nf stoB]
  constructor
  · rintro ⟨x, ⟨hx, rfl⟩, rfl⟩; exact hx
  · intro h; exact ⟨_, ⟨h, rfl⟩, rfl⟩

theorem outs_srt {s : Lts} (h : Srt ltE s.es) (i : Int) : Srt ltS (s.outs i) := by
  unfold Lts.outs Srt
  rw [List.pairwise_map]
  have h1 := List.Pairwise.filter (fun x => x.1 == i) h
  refine List.Pairwise.imp_of_mem (R := fun a b => ltE a b = true) ?_ h1
  intro a b ha hb hab
  have ha' := (List.mem_filter.1 ha).2; have hb' := (List.mem_filter.1 hb).2
  simp only [beq_iff_eq] at ha' hb'
  rw [ltE_iff] at hab; rw [ltS_iff]; simp only; omega
theorem ins_srt {s : Lts} (i : Int) : Srt ltS (s.ins i) := by
  unfold Lts.ins Srt
  rw [List.pairwise_map]
  have h1 := List.Pairwise.filter (fun x => x.2.2 == i) (srt_nf stoB s.es)
  refine List.Pairwise.imp_of_mem (R := fun a b => ltB a b = true) ?_ h1
  intro a b ha hb hab
  have ha' := (List.mem_filter.1 ha).2; have hb' := (List.mem_filter.1 hb).2
  simp only [beq_iff_eq] at ha' hb'
  rw [ltB_iff] at hab; rw [ltS_iff]; simp only; omega

end Pl
end Go.Proofs.YtbbjmompbmgnmaaDoor

/-
  Plain: how many steps all states have together; edges in another order.
-/
import Derived.Test.YtfjgedninbpjpaaDoorPl2
namespace Go.Proofs.YtfjgedninbpjpaaDoor
namespace Pl

theorem frK_succ (key : E → Int) (i : Nat) : ∀ l : List E, frK key l (i + 1) = frK key l i + (l.filter (fun x => key x == (i : Int))).length
  | [] => by simp [frK]
  | x :: l => by
    have ih := frK_succ key i l
    unfold frK at *
    rcases Int.lt_trichotomy (key x) i with h | h | h
    · have b1 : decide (key x < ((i + 1 : Nat) : Int)) = true := by simp; omega
      have b2 : decide (key x < (i : Int)) = true := by simp; omega
      have b3 : (key x == (i : Int)) = false := by simp; omega
      simp only [List.filter_cons, b1, b2, b3, if_true, Bool.false_eq_true, if_false, List.length_cons, ih]; omega
    · have b1 : decide (key x < ((i + 1 : Nat) : Int)) = true := by simp; omega
      have b2 : decide (key x < (i : Int)) = false := by simp; omega
      have b3 : (key x == (i : Int)) = true := by simp; omega
      simp only [List.filter_cons, b1, b2, b3, if_true, Bool.false_eq_true, if_false, List.length_cons, ih]; omega
    · have b1 : decide (key x < ((i + 1 : Nat) : Int)) = false := by simp; omega
      have b2 : decide (key x < (i : Int)) = false := by simp; omega
      have b3 : (key x == (i : Int)) = false := by simp; omega
      simp only [List.filter_cons, b1, b2, b3, Bool.false_eq_true, if_false, ih]

theorem frK_zero {key : E → Int} {l : List E} (h : ∀ x ∈ l, 0 ≤ key x) : frK key l 0 = 0 := by
  unfold frK
  rw [List.length_eq_zero_iff, List.filter_eq_nil_iff]
  intro x hx; have := h x hx; simp; omega
theorem frK_all {key : E → Int} {l : List E} {n : Nat} (h : ∀ x ∈ l, key x < (n : Int)) : frK key l n = l.length := by
  unfold frK
  rw [List.filter_eq_self.2]
  intro x hx; have := h x hx; simp; omega

theorem outs_add (s : Lts) (i : Nat) : frK (fun x => x.1) s.es (i + 1) = frK (fun x => x.1) s.es i + (s.outs (i : Int)).length := by
  rw [frK_succ]; unfold Lts.outs; rw [List.length_map]
theorem ins_add (s : Lts) (i : Nat) : frK (fun x => x.2.2) (nf ltB s.es) (i + 1) = frK (fun x => x.2.2) (nf ltB s.es) i + (s.ins (i : Int)).length := by
  rw [frK_succ]; unfold Lts.ins; rw [List.length_map]

theorem nodupE {lt : E → E → Bool} (O : STO lt) {l : List E} (h : Srt lt l) : l.Nodup :=
  h.imp (fun {a b} h e => by subst e; rw [O.irrefl] at h; cases h)

theorem nfB_len {l : List E} (h : Srt ltE l) : (nf ltB l).length = l.length := by
  have h1 := nodupE stoE h
  have h2 := nodupE stoB (srt_nf stoB l)
  apply Nat.le_antisymm
  · exact length_nf l
  · exact List.Nodup.length_le_of_subset h1 (fun x hx => (mem_nf stoB x l).2 hx)

/-- Edges in another order, and one of them twice, are the same system. -/
theorem norm_of_mem {s t : Lts} (h1 : t.st = s.st) (h2 : t.lb = s.lb) (h3 : t.s0 = s.s0) (h : ∀ x, x ∈ t.es ↔ x ∈ s.es) : t.norm = s.norm := by
  unfold Lts.norm
  rw [nf_congr stoE h, h1, h2, h3]

theorem right_of_mem {s t : Lts} (h1 : t.st = s.st) (h2 : t.lb = s.lb) (h3 : t.s0 = s.s0) (h : ∀ x, x ∈ t.es ↔ x ∈ s.es) (hs : s.es.length ≤ 10000) (ht : t.es.length ≤ 10000) : t.Right ↔ s.Right := by
  have hh : HeadBad t.st t.lb t.s0 t.es.length ↔ HeadBad s.st s.lb s.s0 s.es.length := by
    rw [h1, h2, h3]; unfold HeadBad; omega
  constructor
  · rintro ⟨a, b⟩; exact ⟨fun c => a (hh.2 c), fun x hx => by rw [← h1, ← h2]; exact b x ((h x).2 hx)⟩
  · rintro ⟨a, b⟩; exact ⟨fun c => a (hh.1 c), fun x hx => by rw [h1, h2]; exact b x ((h x).1 hx)⟩

theorem mem_shuffle {l : List E} {k : Nat} {y : E} (hy : l[k]? = some y) (x : E) : x ∈ l.drop k ++ l.take k ++ [y] ↔ x ∈ l := by
  have hm := List.mem_of_getElem? hy
  have hx : x ∈ l ↔ x ∈ l.take k ∨ x ∈ l.drop k := by rw [← List.mem_append, List.take_append_drop]
  rw [hx]
  simp only [List.mem_append, List.mem_singleton]
  constructor
  · rintro ((h | h) | h)
    · exact .inr h
    · exact .inl h
    · subst h
      rw [← List.mem_append, List.take_append_drop]; exact hm
  · rintro (h | h)
    · exact .inl (.inr h)
    · exact .inl (.inl h)

end Pl
end Go.Proofs.YtfjgedninbpjpaaDoor

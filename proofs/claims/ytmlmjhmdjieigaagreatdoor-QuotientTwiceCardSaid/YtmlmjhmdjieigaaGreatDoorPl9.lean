/-
  Plain: two strictly sorted lists laid into one, each element once (the reference's way of sorting).
-/
import Derived.Test.YtmlmjhmdjieigaaGreatDoorGPl1
namespace Go.Proofs.YtmlmjhmdjieigaaGreatDoor
namespace Pl

/-- One element more behind, unless it is the last one already. -/
def pushL (out : List E) (e : E) : List E := if out.getLast? = some e then out else out ++ [e]

structure Mrg (a b out : List E) (i k : Nat) : Prop where
  srt : Srt ltE out
  mem : ∀ x, x ∈ out ↔ x ∈ a.take i ∨ x ∈ b.take k
  la : ∀ o ∈ out, ∀ x ∈ a.drop i, ltE x o = false
  lb : ∀ o ∈ out, ∀ x ∈ b.drop k, ltE x o = false

theorem Mrg.nil (a b : List E) : Mrg a b [] 0 0 := ⟨by simp [Srt], by simp, by simp, by simp⟩

theorem srt_pushL {out : List E} {e : E} (h : Srt ltE out) (he : ∀ o ∈ out, ltE e o = false) : Srt ltE (pushL out e) ∧ ∀ x, x ∈ pushL out e ↔ x ∈ out ∨ x = e := by
  unfold pushL
  by_cases hl : out.getLast? = some e
  · rw [if_pos hl]
    have hm : e ∈ out := List.mem_of_getLast? hl
    exact ⟨h, fun x => ⟨.inl, fun hx => by rcases hx with hx | rfl; exact hx; exact hm⟩⟩
  · rw [if_neg hl]
    refine ⟨?_, fun x => by simp⟩
    unfold Srt at *
    rw [List.pairwise_append]
    refine ⟨h, by simp, fun o ho x hx => ?_⟩
    simp at hx; subst hx
    -- o is the last, or ahead of the last
    obtain ⟨l, z, rfl⟩ : ∃ l z, out = l ++ [z] := by
      rcases List.eq_nil_or_concat out with rfl | ⟨l, z, hz⟩
      · simp at ho
      · exact ⟨l, z, by simpa using hz⟩
    have hz : z ≠ x := by rintro rfl; simp at hl
    have hzx : ltE z x = true := by
      rcases stoE.total z x with h1 | h1 | h1
      · exact h1
      · exact absurd h1 hz
      · rw [he z (by simp)] at h1; cases h1
    rcases List.mem_append.1 ho with h1 | h1
    · have := (List.pairwise_append.1 h).2.2 o h1 z (by simp)
      exact stoE.trans _ _ _ this hzx
    · simp at h1; subst h1; exact hzx

theorem asymE {a b : E} (h : ltE a b = true) : ltE b a = false := by
  rw [Bool.eq_false_iff]; intro h2
  have := stoE.trans _ _ _ h h2
  rw [stoE.irrefl] at this; cases this

/-- What is not above the head of a sorted list is above nothing of it. -/
theorem notBelow {b : List E} {k : Nat} {x e : E} (h : Srt ltE b) (hk : b[k]? = some x) (hx : ltE x e = false) : ∀ y ∈ b.drop k, ltE y e = false := by
  intro y hy
  obtain ⟨j, hj⟩ := List.getElem?_of_mem hy
  rw [List.getElem?_drop] at hj
  by_cases h0 : j = 0
  · subst h0; rw [Nat.add_zero, hk] at hj; cases hj; exact hx
  · obtain ⟨h1, e1⟩ := List.getElem?_eq_some_iff.1 hk
    obtain ⟨h2, e2⟩ := List.getElem?_eq_some_iff.1 hj
    have := List.pairwise_iff_getElem.1 h k (k + j) h1 h2 (by omega)
    rw [e1, e2] at this
    rw [Bool.eq_false_iff]; intro h3
    rw [stoE.trans _ _ _ this h3] at hx; cases hx

theorem Mrg.pushA {a b out : List E} {i k : Nat} {e : E} (h : Mrg a b out i k) (ha : Srt ltE a) (hi : a[i]? = some e) (hb : ∀ y ∈ b.drop k, ltE y e = false) : Mrg a b (pushL out e) (i + 1) k := by
  obtain ⟨hil, hie⟩ := List.getElem?_eq_some_iff.1 hi
  have hd : a.drop i = e :: a.drop (i + 1) := by rw [List.drop_eq_getElem_cons hil, hie]
  have hlo : ∀ o ∈ out, ltE e o = false := fun o ho => h.la o ho e (by rw [hd]; simp)
  obtain ⟨h1, h2⟩ := srt_pushL h.srt hlo
  refine ⟨h1, fun x => ?_, fun o ho x hx => ?_, fun o ho x hx => ?_⟩
  · rw [h2, h.mem, List.take_succ_eq_append_getElem hil, hie, List.mem_append, List.mem_singleton]
    constructor
    · rintro ((h | h) | h)
      · exact .inl (.inl h)
      · exact .inr h
      · exact .inl (.inr h)
    · rintro ((h | h) | h)
      · exact .inl (.inl h)
      · exact .inr h
      · exact .inl (.inr h)
  · rcases (h2 o).1 ho with h3 | rfl
    · exact h.la o h3 x (by rw [hd]; simp [hx])
    · have hs : Srt ltE (a.drop i) := List.Pairwise.drop ha
      rw [hd] at hs
      exact asymE ((List.pairwise_cons.1 hs).1 x hx)
  · rcases (h2 o).1 ho with h3 | rfl
    · exact h.lb o h3 x hx
    · exact hb x hx

theorem Mrg.swap {a b out : List E} {i k : Nat} (h : Mrg a b out i k) : Mrg b a out k i := ⟨h.srt, fun x => by rw [h.mem]; exact Or.comm, h.lb, h.la⟩
theorem Mrg.pushB {a b out : List E} {i k : Nat} {e : E} (h : Mrg a b out i k) (hb : Srt ltE b) (hi : b[k]? = some e) (ha : ∀ y ∈ a.drop i, ltE y e = false) : Mrg a b (pushL out e) i (k + 1) :=
  (h.swap.pushA hb hi ha).swap

theorem Mrg.done {a b out l : List E} (h : Mrg a b out a.length b.length) (hm : ∀ x, x ∈ l ↔ x ∈ a ∨ x ∈ b) : out = nf ltE l :=
  eq_nf stoE h.srt (fun x => by rw [h.mem, List.take_length, List.take_length, hm])

theorem Mrg.len {a b out : List E} {i k : Nat} {e : E} : (pushL out e).length ≤ out.length + 1 := by
  unfold pushL; split <;> simp

theorem half_mem (l : List E) (m : Nat) (x : E) : x ∈ l ↔ x ∈ nf ltE (l.take m) ∨ x ∈ nf ltE (l.drop m) := by
  rw [mem_nf stoE, mem_nf stoE, ← List.mem_append, List.take_append_drop]

theorem nf_short {l : List E} (h : l.length < 2) : nf ltE l = l := by
  match l, h with
  | [], _ => rfl
  | [x], _ => rfl
  | _ :: _ :: _, h => simp at h; omega

end Pl
end Go.Proofs.YtmlmjhmdjieigaaGreatDoor

/-
  Plain: how long signatures are and what stands in them; the numbers of texts; classes at the first round.
  Rows of lists: one list laid by a call is put in its place; maps keyed by strings.
-/
import Derived.Test.YtmlmjhmdjieigaaGreatDoorGBrC
import Derived.Test.YtmlmjhmdjieigaaGreatDoorGKeyE
import Derived.Test.YtmlmjhmdjieigaaGreatDoorGTauJ
import Derived.Test.YtmlmjhmdjieigaaGreatDoorTauK
import Derived.Test.YtmlmjhmdjieigaaGreatDoorGGraphA
import Derived.Test.YtmlmjhmdjieigaaGreatDoorCanon
import Derived.StringKeys
namespace Go.Proofs.YtmlmjhmdjieigaaGreatDoor
namespace Pl

theorem nodup_subG {α : Type} [DecidableEq α] : ∀ (L M : List α), L.Nodup → (∀ x ∈ L, x ∈ M) → L.length ≤ M.length
  | [], M, _, _ => Nat.zero_le _
  | x :: L, M, hn, hs => by
    rw [List.nodup_cons] at hn
    have ih := nodup_subG L (M.erase x) hn.2 (fun y hy => (List.mem_erase_of_ne (fun e : y = x => hn.1 (e ▸ hy))).2 (hs y (List.mem_cons_of_mem _ hy)))
    have h1 := List.length_erase_of_mem (hs x (by simp))
    have h2 := List.length_pos_of_mem (hs x (by simp))
    rw [List.length_cons]; omega
theorem srtS_nodup {L : List S} (h : Srt ltS L) : L.Nodup := List.Pairwise.imp (fun {a b} hab e => by subst e; rw [stoS.irrefl] at hab; cases hab) h
/-- A signature is no longer than the edges. -/
theorem SigOk.len {s : Lts} {C : Nat → Int} {p : Nat} {L : List S} (h : SigOk s C p L) : L.length ≤ s.es.length := by
  have h1 := nodup_subG L (s.es.map (fun e => (e.2.1, C e.2.2.toNat))) (srtS_nodup h.srt) (fun x hx => by
    obtain ⟨l, e⟩ := x
    obtain ⟨q, t, _, h2, h3, _⟩ := ((h.mem l e).1 hx).way
    exact List.mem_map.2 ⟨((q : Int), l, (t : Int)), h2, by simp only [Int.toNat_natCast]; rw [h3]⟩)
  rwa [List.length_map] at h1
/-- What stands in a signature. -/
theorem SigOk.rng {s : Lts} (hr : s.Right) {n : Nat} (hn : s.st = (n : Int)) {C : Nat → Int} {p : Nat} {L : List S} (h : SigOk s C p L) {x : S} (hx : x ∈ L) : 0 ≤ x.1 ∧ x.1 < s.lb ∧ ∃ t, t < n ∧ x.2 = C t := by
  obtain ⟨l, e⟩ := x
  obtain ⟨q, t, _, h2, h3, _⟩ := ((h.mem l e).1 hx).way
  have h4 := stp_lt hr hn h2
  exact ⟨h4.2.2.1, h4.2.2.2, t, h4.2.1, h3.symm⟩
theorem outs_leB (s : Lts) (p : Int) : (s.outs p).length ≤ s.es.length := by
  unfold Lts.outs
  rw [List.length_map]; exact List.length_filter_le _ _
theorem share_len {C : Nat → Int} {F : Nat → List S} {p k : Nat} (hk : 1 ≤ k) (hF : ∀ t, (F t).length ≤ k) : ∀ L : List S, (L.flatMap (shareB C F p)).length ≤ L.length * k
  | [] => by simp
  | x :: L => by
    have ih := share_len (p := p) hk hF L (C := C)
    have h1 : (shareB C F p x).length ≤ k := by
      unfold shareB
      split
      · exact hF _
      · simpa using hk
    rw [List.flatMap_cons, List.length_append, List.length_cons, Nat.succ_mul]
    omega
/-- The classes at first. -/
theorem canon_zeroB (n : Nat) : canon (fl n (fun _ => 0)) = fl n (fun _ => 0) := by
  rw [canon_fl]
  unfold fl
  apply List.map_congr_left
  intro i hi
  have h1 := clf_rng (f := fun _ => (0 : Int)) (List.mem_range.1 hi)
  have h2 : (dist (fl n (fun _ => (0 : Int)))).length ≤ 1 := by
    have := nodup_subI (dist (fl n (fun _ => (0 : Int)))) [0] (nodup_dist _) (fun x hx => by
      obtain ⟨p, _, h⟩ := mem_dist_fl.1 hx
      simp [← h])
    simpa using this
  show clf n (fun _ => 0) i = 0
  omega
/-- The next classes are others: there are more of them. -/
theorem next_more {s : Lts} {n : Nat} {C D : Nat → Int} (hd : NextB s n C D) (h1 : canon (fl n C) = fl n C) (h2 : canon (fl n D) = fl n D) (hne : fl n D ≠ fl n C) : (dist (fl n C)).length < (dist (fl n D)).length := by
  have href : ∀ p q, p < n → q < n → D p = D q → C p = C q := fun p q hp hq e => ((hd p q hp hq).1 e).1
  by_cases h : ∀ p q, p < n → q < n → C p = C q → D p = D q
  · exact absurd (canon_same_list h2 h1 (fun p q hp hq => ⟨href p q hp hq, h p q hp hq⟩)) hne
  · have : ∃ a b, a < n ∧ b < n ∧ C a = C b ∧ D a ≠ D b := by
      apply Classical.byContradiction
      intro hno
      exact h (fun p q hp hq e => Classical.byContradiction (fun e2 => hno ⟨p, q, hp, hq, e, e2⟩))
    obtain ⟨a, b, ha, hb, e1, e2⟩ := this
    exact more_classes href ha hb e1 e2
theorem fl_inj {n : Nat} {f g : Nat → Int} (h : fl n f = fl n g) {p : Nat} (hp : p < n) : f p = g p := by
  have h1 := fl_get f hp
  rw [h, fl_get g hp] at h1
  exact (Option.some.inj h1).symm
theorem still_done {s : Lts} {n : Nat} {C D : Nat → Int} (hd : NextB s n C D) (he : fl n D = fl n C) : Still s n C := fun p q hp hq e _ _ hs =>
  (((hd p q hp hq).1 (by rw [fl_inj he hp, fl_inj he hq]; exact e)).2 _ _).1 hs

/-! the numbers of texts -/
/-- A text's code: where it stands among the texts. -/
def codeT (T : List (List UInt8)) (z : List UInt8) : Int := (T.idxOf z : Int)
theorem codeT_inj {T : List (List UInt8)} {y z : List UInt8} (hy : y ∈ T) (hz : z ∈ T) (h : codeT T y = codeT T z) : y = z := by
  unfold codeT at h
  have h1 := List.getElem_idxOf (List.idxOf_lt_length_of_mem hy)
  have h2 := List.getElem_idxOf (List.idxOf_lt_length_of_mem hz)
  rw [← h1, ← h2]
  congr 1
  omega
/-- The number that the map tells of a text. -/
def numT (T : List (List UInt8)) (D : List Int) (z : List UInt8) : Option Int := if z ∈ T ∧ codeT T z ∈ D then some (D.idxOf (codeT T z) : Int) else none
theorem numT_nil (T : List (List UInt8)) (z : List UInt8) : numT T [] z = none := by unfold numT; simp
theorem numT_push {T : List (List UInt8)} {D : List Int} {y : List UInt8} (hy : y ∈ T) (hD : codeT T y ∉ D) (z : List UInt8) : (if z = y then some (D.length : Int) else numT T D z) = numT T (D ++ [codeT T y]) z := by
  unfold numT
  by_cases e : z = y
  · subst e
    rw [if_pos rfl, if_pos ⟨hy, by simp⟩, List.idxOf_append]
    simp [hD]
  · rw [if_neg e]
    by_cases hz : z ∈ T
    · have hne : codeT T z ≠ codeT T y := fun h => e (codeT_inj hz hy h)
      by_cases h : codeT T z ∈ D
      · rw [if_pos ⟨hz, h⟩, if_pos ⟨hz, by simp [h]⟩, List.idxOf_append]
        simp [h]
      · rw [if_neg (fun k => h k.2), if_neg]
        rintro ⟨_, k⟩
        rcases List.mem_append.1 k with k | k
        · exact h k
        · simp at k; exact hne k
    · rw [if_neg (fun k => hz k.1), if_neg (fun k => hz k.1)]
/-- The texts of a round, and each state's code. -/
def txtL (n : Nat) (C : Nat → Int) (F : Nat → List S) : List (List UInt8) := (List.range n).map (fun p => textB (C p) (F p))
theorem txtL_mem {n : Nat} {C : Nat → Int} {F : Nat → List S} {p : Nat} (hp : p < n) : textB (C p) (F p) ∈ txtL n C F := List.mem_map.2 ⟨p, List.mem_range.2 hp, rfl⟩
def cdG (n : Nat) (C : Nat → Int) (F : Nat → List S) (p : Nat) : Int := codeT (txtL n C F) (textB (C p) (F p))
theorem cdG_eq {n : Nat} {C : Nat → Int} {F : Nat → List S} {p q : Nat} (hp : p < n) (hq : q < n) : cdG n C F p = cdG n C F q ↔ textB (C p) (F p) = textB (C q) (F q) :=
  ⟨codeT_inj (txtL_mem hp) (txtL_mem hq), fun h => by unfold cdG; rw [h]⟩
end Pl
end Go.Proofs.YtmlmjhmdjieigaaGreatDoor

namespace Go.Proofs.YtmlmjhmdjieigaaGreatDoor
open Go.RowKit Pl Go.Maps

section
variable {α : Type} {enc : α → List Value} {k : Nat} {e T : TypeId} {w w' : World} {base ob n : Nat} {f : Nat → List α}
theorem OwnRows.congr {g : Nat → List α} (h : OwnRows enc k e T w base ob n f) (hf : ∀ i, f i = g i) : OwnRows enc k e T w base ob n g := by
  have : f = g := funext hf
  rw [← this]; exact h
theorem OwnRows.put (h : OwnRows enc k e T w base ob n f) {p : Nat} (hB : Below w.heap.size w w') (hbs : base ≤ w.heap.size) {v : Value} {ys : List α} (ho : w'.ownsRow w.heap.size e k v ys.length (ys.flatMap enc)) :
    OwnRows enc k e T (w'.setCell ⟨ob, p, none⟩ v) base ob n (fun i => if i = p then ys else f i) := by
  obtain ⟨vs, h1, h2, h3⟩ := h.ex
  refine ⟨⟨fun i => if i = p then v else vs i, (h1.of_block (hB.block ob h1.lt)).set p v, fun q hq => ?_, ?_⟩, h.lt⟩
  · by_cases e1 : q = p
    · subst e1
      simp only [if_true]
      exact ownsRow_setCell_below (own_mono ho hbs) h.lt _
    · simp only [if_neg e1]
      exact ownsRow_setCell_below (own_below (h2 q hq) hB) h.lt _
  · intro a b g ha hb hab hga
    by_cases e1 : a = p
    · subst e1
      simp only [if_true] at hga
      simp only [if_neg (Ne.symm hab)]
      intro e2
      have h4 := (ho.lt g hga).1
      have h5 := ((h2 b hb).lt g e2).2
      omega
    · simp only [if_neg e1] at hga
      by_cases e2 : b = p
      · subst e2
        simp only [if_true]
        intro e3
        have h4 := (ho.lt g e3).1
        have h5 := ((h2 a ha).lt g hga).2
        omega
      · simp only [if_neg e2]; exact h3 a b g ha hb hab hga
end

/-- Maps keyed by strings. -/
def encTx (x : List UInt8) : Value := .string ⟨x.toArray⟩
def okTx (x : List UInt8) : Prop := x.length ≤ 1000000
theorem encTxt : KeyEnc Tryz.prog 9 encTx okTx where
  K := string_keyed Tryz.underlying9
  key x h := ⟨_, Go.WideMaps.keyOf_string_mk Tryz.underlying9 (by unfold maxLen; unfold okTx at h; show x.toArray.size ≤ _; rw [List.size_toArray]; omega)⟩
  inj x y h := by
    unfold encTx at h
    simp only [Value.string.injEq, ByteArray.mk.injEq] at h
    exact congrArg Array.toList h |>.trans (by rfl) |> fun e => by simpa using e
end Go.Proofs.YtmlmjhmdjieigaaGreatDoor

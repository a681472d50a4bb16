/-
  Lemmas.
-/
import Derived.Test.YtbaccmlfnbgehaaGreatDoorGWkM
open Nat renaming lt_of_lt_of_le → l0
open List renaming foldl_cons → l1, any_eq_true → l2, any_cons → l3, foldl_append → l4
open Go.Proofs.Tryz
namespace Go.Proofs.YtbaccmlfnbgehaaGreatDoor
open Go.RowKit Pl
namespace Pl
def getO (o : Option (Nat -> Bool)) (x : Nat) : Bool := match o with | none => false | some F => F x
def uniO (a b : Option (Nat -> Bool)) : Option (Nat -> Bool) := match a, b with
  | o, none => o
  | none, some G => some G
  | some F, some G => some (orF F G)
theorem u1a (a b : Option (Nat -> Bool)) (x : Nat) : getO (uniO a b) x = (getO a x || getO b x) := by
 cases a <;> cases b <;> simp [uniO, getO, orF]
theorem z1w (a b : Option (Nat -> Bool)) : (uniO a b).isSome = (a.isSome || b.isSome) := by
 cases a <;> cases b <;> simp [uniO]
theorem z1s (a : Option (Nat -> Bool)) : uniO a none = a := by cases a <;> rfl
theorem j1p (a : Option (Nat -> Bool)) (G : Nat -> Bool) : uniO a (some G) = some (orF (getO a) G) := by
 cases a with
 | none => simp only [uniO, Option.some.injEq]; funext x; simp [orF, getO]
 | some F => rfl
def onceT (G : Nat -> Nat -> Bool) (T : List S) (l : Nat) : Option (Nat -> Bool) := T.foldl (fun o y => if y.1 = (l : Int) then uniO o (some (G y.2.toNat)) else o) none
def onceO (G : Nat -> Nat -> Bool) (p : Nat) (T : List S) (l : Nat) : Option (Nat -> Bool) := if l = 0 then some (G p) else onceT G T l
theorem j1a (G : Nat -> Nat -> Bool) (T : List S) (y : S) (l : Nat) : onceT G (T ++ [y]) l = if y.1 = (l : Int) then uniO (onceT G T l) (some (G y.2.toNat)) else onceT G T l := by
 unfold onceT; rw [l4]; rfl
theorem j2h (G : Nat -> Nat -> Bool) (p : Nat) (T : List S) {y : S} (h : y.1 = 0) (l : Nat) : onceO G p (T ++ [y]) l = onceO G p T l := by
 unfold onceO
 by_cases hl : l = 0
 · rw [if_pos hl, if_pos hl]
 · rw [if_neg hl, if_neg hl, j1a, if_neg (by omega)]
theorem j2g (G : Nat -> Nat -> Bool) (p : Nat) (T : List S) {y : S} {k u : Nat} (h : y = ((k : Int), (u : Int))) (hk : k ≠ 0) (l : Nat) : onceO G p (T ++ [y]) l = if l = k then some (orF (getO (onceO G p T k)) (G u)) else onceO G p T l := by
 subst h
 unfold onceO
 by_cases hl : l = 0
 · rw [if_pos hl, if_pos hl, if_neg (by omega)]
 · rw [if_neg hl, if_neg hl, j1a, if_neg hk]
   simp only [Int.toNat_natCast]
   by_cases e : l = k
   · subst e; rw [if_pos rfl, if_pos rfl, j1p]
   · rw [if_neg (by omega), if_neg e]
theorem u0z (G : Nat -> Nat -> Bool) (l : Nat) : ∀ (T : List S) (o : Option (Nat -> Bool)), (T.foldl (fun o y => if y.1 = (l : Int) then uniO o (some (G y.2.toNat)) else o) o).isSome = (o.isSome || T.any (fun y => decide (y.1 = (l : Int))))
  | [], o => by simp
  | y :: T, o => by
    rw [l1, u0z G l T, l3]
    by_cases h : y.1 = (l : Int)
    · rw [if_pos h, z1w]; simp [h]
    · rw [if_neg h]; simp [h]
theorem q1m (G : Nat -> Nat -> Bool) (l x : Nat) : ∀ (T : List S) (o : Option (Nat -> Bool)), getO (T.foldl (fun o y => if y.1 = (l : Int) then uniO o (some (G y.2.toNat)) else o) o) x = (getO o x || T.any (fun y => decide (y.1 = (l : Int)) && G y.2.toNat x))
  | [], o => by simp
  | y :: T, o => by
    rw [l1, q1m G l x T, l3]
    by_cases h : y.1 = (l : Int)
    · rw [if_pos h, u1a]; simp [h, getO, Bool.or_assoc]
    · rw [if_neg h]; simp [h]
def OnceOk (s : Lts) (G : Nat -> Nat -> Bool) (p : Nat) (l : Int) (o : Option (Nat -> Bool)) : Prop :=
  (o.isSome = true ↔ ∃ t, one s p l t) /\ ∀ x, getO o x = true ↔ ∃ t, one s p l t /\ G t x = true
theorem z2h {s g : Lts} (hg : ∀ (p : Nat) (l : Int) (t : Nat), (l, (t : Int)) ∈ g.outs (p : Int) ↔ stp s p l t) (hgr : g.Right) (G : Nat -> Nat -> Bool) (p l : Nat) : OnceOk s G p (l : Int) (onceO G p (g.outs (p : Int)) l) := by
 unfold onceO OnceOk
 by_cases hl : l = 0
 · (
 subst hl
 rw [if_pos rfl]
 refine ⟨⟨fun _ => ⟨p, .inl ⟨rfl, rfl⟩⟩, fun _ => rfl⟩, fun x => ⟨fun h => ⟨p, .inl ⟨rfl, rfl⟩, h⟩, ?_⟩⟩
 rintro ⟨t, h1, h2⟩
 rcases h1 with ⟨_, rfl⟩ | ⟨h, _⟩
 · exact h2
 · exact absurd rfl h)
 · (
 rw [if_neg hl]
 have hl2 : ¬ (l : Int) = 0 := by omega
 have key : ∀ (P : Nat -> Bool), ((g.outs (p : Int)).any (fun y => decide (y.1 = (l : Int)) && P y.2.toNat) = true ↔ ∃ t, one s p (l : Int) t /\ P t = true) := by (
 intro P
 rw [l2]
 constructor
 · (
 rintro ⟨⟨a, b⟩, h1, h2⟩
 have h3 := j0g.1 (hgr.edges _ (j0s.1 h1))
 simp only at h3
 obtain ⟨b, rfl⟩ := Int.eq_ofNat_of_zero_le h3.2.2.2.2.1
 simp only [Bool.and_eq_true, decide_eq_true_eq, Int.toNat_natCast] at h2
 obtain ⟨rfl, h2⟩ := h2
 exact ⟨b, .inr ⟨hl2, (hg p _ b).1 h1⟩, h2⟩)
 · rintro ⟨t, h1, h2⟩
   rcases h1 with ⟨h, _⟩ | ⟨_, h1⟩
   · exact absurd h hl2
   · exact ⟨((l : Int), (t : Int)), (hg p _ t).2 h1, by simp [h2]⟩)
 unfold onceT
 constructor
 · rw [u0z]
   have h1 := key (fun _ => true)
   simp only [Bool.and_true, and_true] at h1
   simpa using h1
 · intro x
   rw [q1m]
   have h1 := key (fun t => G t x)
   simpa [getO] using h1)
def outO (E : Nat -> Nat -> Option (Nat -> Bool)) (M : List Nat) (l : Nat) : Option (Nat -> Bool) := M.foldl (fun o m => uniO o (E m l)) none
theorem p2z (E : Nat -> Nat -> Option (Nat -> Bool)) (M : List Nat) (m l : Nat) : outO E (M ++ [m]) l = uniO (outO E M l) (E m l) := by unfold outO; rw [l4]; rfl
theorem q1k (E : Nat -> Nat -> Option (Nat -> Bool)) (l : Nat) : ∀ (M : List Nat) (o : Option (Nat -> Bool)), (M.foldl (fun o m => uniO o (E m l)) o).isSome = (o.isSome || M.any (fun m => (E m l).isSome))
  | [], o => by simp
  | m :: M, o => by rw [l1, q1k E l M, l3, z1w, Bool.or_assoc]
theorem v1d (E : Nat -> Nat -> Option (Nat -> Bool)) (l x : Nat) : ∀ (M : List Nat) (o : Option (Nat -> Bool)), getO (M.foldl (fun o m => uniO o (E m l)) o) x = (getO o x || M.any (fun m => getO (E m l) x))
  | [], o => by simp
  | m :: M, o => by rw [l1, v1d E l x M, l3, u1a, Bool.or_assoc]
theorem j3f {s : Lts} {n : Nat} (hr : s.Right) (hn : s.st = (n : Int)) {G : Nat -> Nat -> Bool} {E : Nat -> Nat -> Option (Nat -> Bool)} {p l : Nat} (hp : p < n) (hE : ∀ m, m < n -> OnceOk s G m (l : Int) (E m l)) {M : List Nat} (hM : ∀ m, m ∈ M ↔ TR s p m) : EndsOk s G p (l : Int) (outO E M l) := by
 have h1 : (outO E M l).isSome = M.any (fun m => (E m l).isSome) := by unfold outO; rw [q1k]; simp
 have h2 : ∀ x, getO (outO E M l) x = M.any (fun m => getO (E m l) x) := fun x => by unfold outO; rw [v1d]; simp [getO]
 have k1 : (outO E M l).isSome = true ↔ ∃ m t, TR s p m /\ one s m (l : Int) t := by (
 rw [h1, l2]
 constructor
 · rintro ⟨m, h3, h4⟩
   have h5 := (hM m).1 h3
   obtain ⟨t, h6⟩ := ((hE m (h5.ltW hr hn hp)).1).1 h4
   exact ⟨m, t, h5, h6⟩
 · rintro ⟨m, t, h3, h4⟩
   exact ⟨m, (hM m).2 h3, ((hE m (h3.ltW hr hn hp)).1).2 ⟨t, h4⟩⟩)
 have k2 : ∀ x, getO (outO E M l) x = true ↔ ∃ m t, TR s p m /\ one s m (l : Int) t /\ G t x = true := fun x => by (
 rw [h2, l2]
 constructor
 · rintro ⟨m, h3, h4⟩
   have h5 := (hM m).1 h3
   obtain ⟨t, h6, h7⟩ := ((hE m (h5.ltW hr hn hp)).2 x).1 h4
   exact ⟨m, t, h5, h6, h7⟩
 · rintro ⟨m, t, h3, h4, h5⟩
   exact ⟨m, (hM m).2 h3, ((hE m (h3.ltW hr hn hp)).2 x).2 ⟨t, h4, h5⟩⟩)
 unfold EndsOk
 cases e : outO E M l with
 | none => (
 rw [e] at k1
 simp only
 intro h
 have := k1.2 h
 simp at this)
 | some F => (
 rw [e] at k1 k2
 simp only
 exact ⟨k1.1 rfl, k2⟩)
end Pl
end Go.Proofs.YtbaccmlfnbgehaaGreatDoor
namespace Go.Proofs.YtbaccmlfnbgehaaGreatDoor
open Go.RowKit Pl
def wkV (o : Option (Nat -> Bool)) (b W : Nat) : Value := match o with | none => .slice none 0 0 | some _ => .slice (some ⟨b, 0, none⟩) W W
def updO {α : Type} (R : Nat -> α) (k : Nat) (o : α) (l : Nat) : α := if l = k then o else R l
theorem j0o {α : Type} (R : Nat -> α) (k : Nat) (o : α) : updO R k o k = o := if_pos rfl
theorem j0n {α : Type} (R : Nat -> α) {k l : Nat} (o : α) (h : l ≠ k) : updO R k o l = R l := if_neg h
structure WkAt (w : World) (tb rb lb WD z : Nat) (R : Nat -> Option (Nat -> Bool)) (bk : Nat -> Nat) : Prop where
  row : w.rowIs rb 124 lb (fun l => wkV (R l) (bk l) WD)
  bit : ∀ l, l < lb -> ∀ F, R l = some F -> BitRow w (bk l) WD F
  own : ∀ l, l < lb -> z <= l -> ∀ F, R l = some F -> rb < bk l
  old : ∀ l, l < lb -> l < z -> ∀ F, R l = some F -> bk l < tb
  apart : ∀ l l', l < lb -> l' < lb -> z <= l -> z <= l' -> l ≠ l' -> ∀ F F', R l = some F -> R l' = some F' -> bk l ≠ bk l'
  lt : tb < rb
section
variable {w w' : World} {tb rb lb WD z : Nat} {R : Nat -> Option (Nat -> Bool)} {bk : Nat -> Nat}
theorem WkAt.ne (h : WkAt w tb rb lb WD z R bk) {l : Nat} (hl : l < lb) {F : Nat -> Bool} (hF : R l = some F) : bk l ≠ rb := by
 have := h.lt
 by_cases hz : z <= l
 · have := h.own l hl hz F hF; omega
 · have := h.old l hl (by omega) F hF; omega
theorem WkAt.call (h : WkAt w tb rb lb WD z R bk) (hB : Below w.heap.size w w') : WkAt w' tb rb lb WD z R bk :=
  ⟨h.row.of_block (hB.block rb h.row.lt), fun l hl F hF => (h.bit l hl F hF).below hB, h.own, h.old, h.apart, h.lt⟩
theorem WkAt.start (h : w.rowIs rb 124 lb (fun _ => .slice none 0 0)) (hlt : tb < rb) (z : Nat) : WkAt w tb rb lb WD z (fun _ => none) (fun _ => 0) :=
  ⟨h, fun _ _ _ e => by simp at e, fun _ _ _ _ e => by simp at e, fun _ _ _ _ e => by simp at e, fun _ _ _ _ _ _ _ _ _ e => by simp at e, hlt⟩
theorem WkAt.zero (h : WkAt w tb rb lb WD 1 R bk) {gb : Nat} {G : Nat -> Bool} (hg : BitRow w gb WD G) (hgb : gb < tb) :
    WkAt (w.setCell ⟨rb, 0, none⟩ (.slice (some ⟨gb, 0, none⟩) WD WD)) tb rb lb WD 1 (updO R 0 (some G)) (updO bk 0 gb) := by
 have hlt := h.lt
 refine ⟨(h.row.set 0 _).congr (fun l _ => ?_), fun l hl F hF => ?_, fun l hl hz F hF => ?_, fun l hl hz F hF => ?_, fun l l' hl hl' hz hz' hne F F' hF hF' => ?_, h.lt⟩
 · unfold updO
   by_cases e : l = 0
   · rw [if_pos e, if_pos e, if_pos e]; rfl
   · rw [if_neg e, if_neg e, if_neg e]
 · (
 by_cases e : l = 0
 · subst e
   rw [j0o] at hF ⊢
   cases hF
   exact hg.of_block (Below.heap_setCell _ _ _ _ (by show gb ≠ rb; omega))
 · rw [j0n _ _ e] at hF ⊢
   exact (h.bit l hl F hF).of_block (Below.heap_setCell _ _ _ _ (h.ne hl hF)))
 · rw [j0n _ _ (by omega)] at hF ⊢
   exact h.own l hl hz F hF
 · obtain rfl : l = 0 := by omega
   rw [j0o]; exact hgb
 · rw [j0n _ _ (by omega)] at hF hF' ⊢
   rw [j0n _ _ (by omega)]
   exact h.apart l l' hl hl' hz hz' hne F F' hF hF'
theorem WkAt.new (h : WkAt w tb rb lb WD z R bk) {k nb : Nat} {G : Nat -> Bool} (hB : Below w.heap.size w w') (hg : BitRow w' nb WD G) (hnb : w.heap.size <= nb) (hz : z <= k) :
    WkAt (w'.setCell ⟨rb, k, none⟩ (.slice (some ⟨nb, 0, none⟩) WD WD)) tb rb lb WD z (updO R k (some G)) (updO bk k nb) := by
 have hlt := h.lt
 have hrl := h.row.lt
 have h' := h.call hB
 refine ⟨(h'.row.set k _).congr (fun l _ => ?_), fun l hl F hF => ?_, fun l hl hz F hF => ?_, fun l hl hz2 F hF => ?_, fun l l' hl hl' hzl hz' hne F F' hF hF' => ?_, h.lt⟩
 · unfold updO
   by_cases e : l = k
   · rw [if_pos e, if_pos e, if_pos e]; rfl
   · rw [if_neg e, if_neg e, if_neg e]
 · (
 by_cases e : l = k
 · subst e
   rw [j0o] at hF ⊢
   cases hF
   exact hg.of_block (Below.heap_setCell _ _ _ _ (by show nb ≠ rb; omega))
 · rw [j0n _ _ e] at hF ⊢
   exact (h'.bit l hl F hF).of_block (Below.heap_setCell _ _ _ _ (h'.ne hl hF)))
 · by_cases e : l = k
   · subst e; rw [j0o]; omega
   · rw [j0n _ _ e] at hF ⊢
     exact h.own l hl hz F hF
 · rw [j0n _ _ (by omega)] at hF ⊢
   exact h.old l hl hz2 F hF
 · (
 by_cases e : l = k
 · subst e
   rw [j0n _ _ (Ne.symm hne)] at hF'
   rw [j0o, j0n _ _ (Ne.symm hne)]
   have := (h.bit l' hl' F' hF').lt
   omega
 · (
 by_cases e' : l' = k
 · subst e'
   rw [j0n _ _ e] at hF
   rw [j0o, j0n _ _ e]
   have := (h.bit l hl F hF).lt
   omega
 · rw [j0n _ _ e] at hF
   rw [j0n _ _ e'] at hF'
   rw [j0n _ _ e, j0n _ _ e']
   exact h.apart l l' hl hl' hzl hz' hne F F' hF hF'))
theorem WkAt.join (h : WkAt w tb rb lb WD z R bk) {k : Nat} (hk : k < lb) (hz : z <= k) {F G : Nat -> Bool} (hF : R k = some F) (hg : BitRow w' (bk k) WD G) (hc : Chg w w' (bk k)) : WkAt w' tb rb lb WD z (updO R k (some G)) bk := by
 have hlt := h.lt
 have hko := h.own k hk hz F hF
 refine ⟨(h.row.of_block (hc.oth rb (by omega) h.row.lt)).congr (fun l hl => ?_), fun l hl F' hF' => ?_, fun l hl hz F' hF' => ?_, fun l hl hz2 F' hF' => ?_, fun l l' hl hl' hzl hz' hne F1 F2 hF1 hF2 => ?_, h.lt⟩
 · by_cases e : l = k
   · subst e; rw [j0o, hF]; rfl
   · rw [j0n _ _ e]
 · (
 by_cases e : l = k
 · subst e; rw [j0o] at hF'; cases hF'; exact hg
 · (
 rw [j0n _ _ e] at hF'
 have hb := h.bit l hl F' hF'
 refine hb.of_block (hc.oth (bk l) ?_ hb.lt)
 by_cases hzl : z <= l
 · exact h.apart l k hl hk hzl hz e F' F hF' hF
 · have := h.old l hl (by omega) F' hF'; omega))
 · by_cases e : l = k
   · subst e; exact hko
   · rw [j0n _ _ e] at hF'; exact h.own l hl hz F' hF'
 · rw [j0n _ _ (by omega)] at hF'; exact h.old l hl hz2 F' hF'
 · (
 have s1 : ∃ F, R l = some F := by (
 by_cases e : l = k
 · exact ⟨F, by rw [e]; exact hF⟩
 · rw [j0n _ _ e] at hF1; exact ⟨F1, hF1⟩)
 have s2 : ∃ F, R l' = some F := by (
 by_cases e : l' = k
 · exact ⟨F, by rw [e]; exact hF⟩
 · rw [j0n _ _ e] at hF2; exact ⟨F2, hF2⟩)
 obtain ⟨A, hA⟩ := s1
 obtain ⟨B, hB⟩ := s2
 exact h.apart l l' hl hl' hzl hz' hne A B hA hB)
theorem WkAt.congr {R' : Nat -> Option (Nat -> Bool)} (h : WkAt w tb rb lb WD z R bk) (e : ∀ l, R l = R' l) : WkAt w tb rb lb WD z R' bk := by
 have : R = R' := funext e
 rw [<- this]; exact h
theorem WkAt.congrL {R' : Nat -> Option (Nat -> Bool)} (h : WkAt w tb rb lb WD z R bk) (e : ∀ l, l < lb -> R l = R' l) : WkAt w tb rb lb WD z R' bk :=
  ⟨h.row.congr (fun l hl => by rw [e l hl]), fun l hl F hF => h.bit l hl F (by rw [e l hl]; exact hF), fun l hl hz F hF => h.own l hl hz F (by rw [e l hl]; exact hF), fun l hl hz F hF => h.old l hl hz F (by rw [e l hl]; exact hF),
    fun l l' hl hl' hz hz' hne F F' hF hF' => h.apart l l' hl hl' hz hz' hne F F' (by rw [e l hl]; exact hF) (by rw [e l' hl']; exact hF'), h.lt⟩
structure WkR (w : World) (tb hi rb lb WD : Nat) (R : Nat -> Option (Nat -> Bool)) : Prop where
  lt : rb < hi
  ne : rb ≠ tb
  ex : ∃ bk : Nat -> Nat, w.rowIs rb 124 lb (fun l => wkV (R l) (bk l) WD) /\ ∀ l, l < lb -> ∀ F, R l = some F -> BitRow w (bk l) WD F /\ bk l < hi /\ bk l ≠ tb
theorem WkAt.done (h : WkAt w tb rb lb WD z R bk) : WkR w tb w.heap.size rb lb WD R :=
  ⟨h.row.lt, by have := h.lt; omega, bk, h.row, fun l hl F hF => ⟨h.bit l hl F hF, (h.bit l hl F hF).lt, by
    have := h.lt
    by_cases hz : z <= l
    · have := h.own l hl hz F hF; omega
    · have := h.old l hl (by omega) F hF; omega⟩⟩
variable {hi hi' : Nat}
theorem WkR.below (h : WkR w tb hi rb lb WD R) (hB : Below hi w w') : WkR w' tb hi rb lb WD R := by
 obtain ⟨bk, h1, h2⟩ := h.ex
 exact ⟨h.lt, h.ne, bk, h1.of_block (hB.block rb h.lt), fun l hl F hF => ⟨(h2 l hl F hF).1.of_block (hB.block _ (h2 l hl F hF).2.1), (h2 l hl F hF).2⟩⟩
theorem WkR.mono (h : WkR w tb hi rb lb WD R) (hh : hi <= hi') : WkR w tb hi' rb lb WD R := by
 obtain ⟨bk, h1, h2⟩ := h.ex
 exact ⟨l0 h.lt hh, h.ne, bk, h1, fun l hl F hF => ⟨(h2 l hl F hF).1, l0 (h2 l hl F hF).2.1 hh, (h2 l hl F hF).2.2⟩⟩
theorem WkR.setT (h : WkR w tb hi rb lb WD R) (j : Nat) (v : Value) : WkR (w.setCell ⟨tb, j, none⟩ v) tb hi rb lb WD R := by
 obtain ⟨bk, h1, h2⟩ := h.ex
 exact ⟨h.lt, h.ne, bk, h1.of_block (Below.heap_setCell _ _ _ _ h.ne), fun l hl F hF => ⟨(h2 l hl F hF).1.of_block (Below.heap_setCell _ _ _ _ (h2 l hl F hF).2.2), (h2 l hl F hF).2⟩⟩
theorem WkR.at (h : WkR w tb hi rb lb WD R) {l : Nat} (hl : l < lb) : ∃ b, w.cell? ⟨rb, l, none⟩ = some (wkV (R l) b WD) /\ ∀ F, R l = some F -> BitRow w b WD F /\ b < hi := by
 obtain ⟨bk, h1, h2⟩ := h.ex
 exact ⟨bk l, h1.cell hl, fun F hF => ⟨(h2 l hl F hF).1, (h2 l hl F hF).2.1⟩⟩
structure WkT (w : World) (hi tb n lb WD i : Nat) (x : Value) (R : Nat -> Nat -> Option (Nat -> Bool)) : Prop where
  lt : tb < hi
  ex : ∃ rbk : Nat -> Nat, w.rowIs tb 120 n (fun p => if p < i then .slice (some ⟨rbk p, 0, none⟩) lb lb else if p = i then x else .slice none 0 0) /\ ∀ p, p < i -> WkR w tb hi (rbk p) lb WD (R p)
variable {n i : Nat} {x : Value} {T : Nat -> Nat -> Option (Nat -> Bool)}
theorem WkT.below (h : WkT w hi tb n lb WD i x T) (hB : Below hi w w') : WkT w' hi tb n lb WD i x T := by
 obtain ⟨rbk, h1, h2⟩ := h.ex
 exact ⟨h.lt, rbk, h1.of_block (hB.block tb h.lt), fun p hp => (h2 p hp).below hB⟩
theorem WkT.mono (h : WkT w hi tb n lb WD i x T) (hh : hi <= hi') : WkT w hi' tb n lb WD i x T := by
 obtain ⟨rbk, h1, h2⟩ := h.ex
 exact ⟨l0 h.lt hh, rbk, h1, fun p hp => (h2 p hp).mono hh⟩
theorem WkT.made (w : World) (n lb WD : Nat) (T : Nat -> Nat -> Option (Nat -> Bool)) : WkT (w.alloc (.cells (madeCells #[.slice none 0 0] n) 120)) (w.heap.size + 1) w.heap.size n lb WD 0 (.slice none 0 0) T :=
  ⟨by omega, fun _ => 0, (World.rowIs_made w (.slice none 0 0) n 120).congr (fun p _ => by simp), fun p hp => by omega⟩
theorem WkT.frozen (h : WkT w hi tb n lb WD i x T) (p : Nat) : w.frozen? ⟨tb, p, none⟩ = false := by obtain ⟨_, h1, _⟩ := h.ex; exact h1.frozen p
theorem WkT.tlt (h : WkT w hi tb n lb WD i x T) : tb < w.heap.size := by obtain ⟨_, h1, _⟩ := h.ex; exact h1.lt
theorem WkT.here (h : WkT w hi tb n lb WD i x T) (hi2 : i < n) : w.cell? ⟨tb, i, none⟩ = some x := by
 obtain ⟨_, h1, _⟩ := h.ex
 have := h1.cell hi2
 rw [if_neg (by omega), if_pos rfl] at this
 exact this
theorem WkT.at (h : WkT w hi tb n lb WD i x T) {p : Nat} (hp : p < i) (hpn : p < n) : ∃ rb, w.cell? ⟨tb, p, none⟩ = some (.slice (some ⟨rb, 0, none⟩) lb lb) /\ WkR w tb hi rb lb WD (T p) := by
 obtain ⟨rbk, h1, h2⟩ := h.ex
 have := h1.cell hpn
 rw [if_pos hp] at this
 exact ⟨rbk p, this, h2 p hp⟩
theorem WkT.open (h : WkT w hi tb n lb WD i x T) (v : Value) : WkT (w.setCell ⟨tb, i, none⟩ v) hi tb n lb WD i v T := by
 obtain ⟨rbk, h1, h2⟩ := h.ex
 refine ⟨h.lt, rbk, (h1.set i v).congr (fun p _ => ?_), fun p hp => (h2 p hp).setT i v⟩
 by_cases e : p = i
 · subst e; rw [if_pos rfl, if_neg (by omega), if_pos rfl]
 · rw [if_neg e, if_neg e, if_neg e]
theorem WkT.close {Q : Nat -> Option (Nat -> Bool)} (h : WkT w hi tb n lb WD i (.slice (some ⟨rb, 0, none⟩) lb lb) T) (hr : WkR w tb hi' rb lb WD Q) (hh : hi <= hi') : WkT w hi' tb n lb WD (i + 1) (.slice none 0 0) (updO T i Q) := by
 obtain ⟨rbk, h1, h2⟩ := h.ex
 refine ⟨l0 h.lt hh, updO rbk i rb, h1.congr (fun p _ => ?_), fun p hp => ?_⟩
 · by_cases e : p < i
   · rw [if_pos e, if_pos (by omega), j0n _ _ (by omega)]
   · by_cases e2 : p = i
     · subst e2; rw [if_neg e, if_pos rfl, if_pos (by omega), j0o]
     · rw [if_neg e, if_neg e2, if_neg (by omega)]; simp
 · by_cases e : p = i
   · subst e; rw [j0o, j0o]; exact hr
   · rw [j0n _ _ e, j0n _ _ e]; exact (h2 p (by omega)).mono hh
theorem WkT.congr {T' : Nat -> Nat -> Option (Nat -> Bool)} (h : WkT w hi tb n lb WD i x T) (e : ∀ p, p < i -> T p = T' p) : WkT w hi tb n lb WD i x T' := by
 obtain ⟨rbk, h1, h2⟩ := h.ex
 exact ⟨h.lt, rbk, h1, fun p hp => by rw [<- e p hp]; exact h2 p hp⟩
end
end Go.Proofs.YtbaccmlfnbgehaaGreatDoor

/-
  Plain: what weak.silent gathers for a cycle is what comes from each of its states by silent steps.
  weak.silent: of each state what comes from it by silent steps.
  Plain: what weak's ends gathers, label by label.
  weak's tables of sets in memory: of each state a row of sets, label by label.
  (*weak.steps).ends: of each state, label by label, what its weak steps lead to.
  weak.of, weak.made, weak.Silent.
  semblanceref1.On, semblanceref7.Check, semblanceref7.Handed, semblanceref13.Guard.
-/
import Derived.Test.YtclannenknhfpaaGreatDoorGWkK
import Derived.Test.YtclannenknhfpaaGreatDoorGGraphB
import Derived.Test.YtclannenknhfpaaGreatDoorGCompact2
import Derived.Deep.QuietTactic
import Derived.BigQuiet
import Derived.BigRegion
import Derived.Deep.RegionHeldLaw
import Derived.Test.YtclannenknhfpaaGreatDoorGRwsB
import Derived.Test.YtclannenknhfpaaGreatDoorGKit
import Derived.Test.YtclannenknhfpaaGreatDoorGRefErr
import Derived.Test.YtclannenknhfpaaGreatDoorGRefRight
import Derived.Test.YtclannenknhfpaaGreatDoorGTogether
namespace Go.Proofs.YtclannenknhfpaaGreatDoor
open Go.RowKit Pl
namespace Pl
/-- What one state of the cycle gives. -/
def silT (n : Nat) (f : Nat → Int) (F : Nat → Nat → Bool) (q : Nat) (T : List Int) (x : Nat) : Bool := T.any (fun t => !decide (asF n f t.toNat = asF n f q) && F t.toNat x)
def silB (s : Lts) (n : Nat) (f : Nat → Int) (F : Nat → Nat → Bool) (q x : Nat) : Bool := decide (x = q) || silT n f F q (withL 0 (s.outs (q : Int))) x
def silR (s : Lts) (n : Nat) (f : Nat → Int) (F : Nat → Nat → Bool) (L : List Nat) (x : Nat) : Bool := L.any (fun q => silB s n f F q x)
/-- A row under way: the states L are in, of q's silent steps the ends T. -/
def silW (s : Lts) (n : Nat) (f : Nat → Int) (F : Nat → Nat → Bool) (L : List Nat) (q : Nat) (T : List Int) (x : Nat) : Bool := putF (silR s n f F L) q x || silT n f F q T x
section
variable {s : Lts} {n : Nat} {f : Nat → Int} {F : Nat → Nat → Bool} {D : List Nat}
theorem silW_nil (L : List Nat) (q : Nat) : silW s n f F L q [] = putF (silR s n f F L) q := by funext x; simp [silW, silT]
theorem silW_skip (L : List Nat) (q : Nat) {T : List Int} {t : Int} (h : asF n f t.toNat = asF n f q) : silW s n f F L q (T ++ [t]) = silW s n f F L q T := by
  funext x; simp [silW, silT, h]
theorem silW_join (L : List Nat) (q : Nat) {T : List Int} {t : Int} (h : asF n f t.toNat ≠ asF n f q) : silW s n f F L q (T ++ [t]) = orF (silW s n f F L q T) (F t.toNat) := by
  funext x; simp [silW, silT, orF, h, Bool.or_assoc]
theorem silW_done (L : List Nat) (q : Nat) : silW s n f F L q (withL 0 (s.outs (q : Int))) = silR s n f F (L ++ [q]) := by
  funext x; simp [silW, silR, silB, putF, Bool.or_assoc]
theorem silR_nil : silR s n f F [] = fun _ => false := by funext x; simp [silR]
theorem mem_silT {q x : Nat} : silT n f F q (withL 0 (s.outs (q : Int))) x = true ↔ ∃ t : Int, (0, t) ∈ s.outs (q : Int) ∧ asF n f t.toNat ≠ asF n f q ∧ F t.toNat x = true := by
  unfold silT withL
  rw [List.any_eq_true]
  constructor
  · rintro ⟨t, h1, h2⟩
    obtain ⟨⟨a, b⟩, h3, rfl⟩ := List.mem_map.1 h1
    have h4 := List.mem_filter.1 h3
    simp only [beq_iff_eq] at h4
    obtain ⟨h4, rfl⟩ := h4
    simp only [Bool.and_eq_true, Bool.not_eq_true', decide_eq_false_iff_not] at h2
    exact ⟨b, h4, h2.1, h2.2⟩
  · rintro ⟨t, h1, h2, h3⟩
    exact ⟨t, List.mem_map.2 ⟨(0, t), List.mem_filter.2 ⟨h1, by simp⟩, rfl⟩, by simp [h2, h3]⟩
/-- The gathered row, seen from each state of the cycle. -/
theorem silR_blk {g : Lts} (h : BlkO s n f D) (hg : ∀ p t : Nat, (0, (t : Int)) ∈ g.outs (p : Int) ↔ tau s p t) (hgr : g.Right) {d k : Nat} (hd : D[d]? = some k) (hF : ∀ t, t ∈ ordO n f (D.take d) → ∀ x, F t x = true ↔ TR s t x) {p : Nat} (hp : p < n) (hpk : asF n f p = k) (x : Nat) :
    silR g n f F (blkO n f k) x = true ↔ TR s p x := by
  unfold silR
  rw [List.any_eq_true]
  constructor
  · rintro ⟨q, hq, h1⟩
    obtain ⟨hqn, hqk⟩ := mem_blkO.1 hq
    have hpq := (h.same hp hqn (by rw [hpk, hqk])).1
    unfold silB at h1
    rw [Bool.or_eq_true] at h1
    rcases h1 with h1 | h1
    · rw [decide_eq_true_eq] at h1; subst h1; exact hpq
    · obtain ⟨t, h2, h3, h4⟩ := mem_silT.1 h1
      have h5 := offB_false.1 (hgr.edges _ (mem_outs.1 h2))
      simp only at h5
      obtain ⟨t, rfl⟩ := Int.eq_ofNat_of_zero_le h5.2.2.2.2.1
      simp only [Int.toNat_natCast] at h3 h4
      have h6 := (hg q t).1 h2
      have h7 := h.ahead hd hqn hqk h6 (by rw [← hqk]; exact h3)
      exact (hpq.tail h6).trans ((hF t h7 x).1 h4)
  · intro ht
    induction ht with
    | refl => exact ⟨p, mem_blkO.2 ⟨hp, hpk⟩, by simp [silB]⟩
    | @tail y x h1 h2 ih =>
      have hl := tau_lt h.right h.st h2
      obtain ⟨q, hq, h3⟩ := ih
      obtain ⟨hqn, hqk⟩ := mem_blkO.1 hq
      have leave : asF n f y = k → ∃ q, q ∈ blkO n f k ∧ silB g n f F q x = true := fun hy => by
        by_cases hx : asF n f x = k
        · exact ⟨x, mem_blkO.2 ⟨hl.2, hx⟩, by simp [silB]⟩
        · refine ⟨y, mem_blkO.2 ⟨hl.1, hy⟩, ?_⟩
          unfold silB
          rw [Bool.or_eq_true]
          right
          refine mem_silT.2 ⟨(x : Int), (hg y x).2 h2, by simp only [Int.toNat_natCast]; rw [hy]; exact hx, ?_⟩
          simp only [Int.toNat_natCast]
          exact (hF x (h.ahead hd hl.1 hy h2 hx) x).2 .refl
      have h3' := h3
      unfold silB at h3
      rw [Bool.or_eq_true] at h3
      rcases h3 with h3 | h3
      · rw [decide_eq_true_eq] at h3; subst h3; exact leave hqk
      · obtain ⟨t, h4, h5, h6⟩ := mem_silT.1 h3
        have h7 := offB_false.1 (hgr.edges _ (mem_outs.1 h4))
        simp only at h7
        obtain ⟨t, rfl⟩ := Int.eq_ofNat_of_zero_le h7.2.2.2.2.1
        simp only [Int.toNat_natCast] at h5 h6
        have h8 := (hg q t).1 h4
        have h9 := h.ahead hd hqn hqk h8 (by rw [← hqk]; exact h5)
        refine ⟨q, hq, ?_⟩
        unfold silB
        rw [Bool.or_eq_true]
        right
        exact mem_silT.2 ⟨(t : Int), h4, by simp only [Int.toNat_natCast]; exact h5, by simp only [Int.toNat_natCast]; exact (hF t h9 x).2 (((hF t h9 y).1 h6).tail h2)⟩
end
end Pl
end Go.Proofs.YtclannenknhfpaaGreatDoor

namespace Go.Proofs.YtclannenknhfpaaGreatDoor
open Go.RowKit Pl

section
variable {w w' : World} {lo sb n : Nat} {F : Nat → Nat → Bool} {I : List Nat}
end

end Go.Proofs.YtclannenknhfpaaGreatDoor

namespace Go.Proofs.YtclannenknhfpaaGreatDoor
open Go.RowKit Pl
namespace Pl
def getO (o : Option (Nat → Bool)) (x : Nat) : Bool := match o with | none => false | some F => F x
/-- Two sets together, or the one that is there. -/
def uniO (a b : Option (Nat → Bool)) : Option (Nat → Bool) := match a, b with
  | o, none => o
  | none, some G => some G
  | some F, some G => some (orF F G)
theorem getO_uni (a b : Option (Nat → Bool)) (x : Nat) : getO (uniO a b) x = (getO a x || getO b x) := by
  cases a <;> cases b <;> simp [uniO, getO, orF]
theorem some_uni (a b : Option (Nat → Bool)) : (uniO a b).isSome = (a.isSome || b.isSome) := by
  cases a <;> cases b <;> simp [uniO]
theorem uni_none (a : Option (Nat → Bool)) : uniO a none = a := by cases a <;> rfl
theorem uni_some (a : Option (Nat → Bool)) (G : Nat → Bool) : uniO a (some G) = some (orF (getO a) G) := by
  cases a with
  | none => simp only [uniO, Option.some.injEq]; funext x; simp [orF, getO]
  | some F => rfl
/-- A state's own steps, so many of them. -/
def onceT (G : Nat → Nat → Bool) (T : List S) (l : Nat) : Option (Nat → Bool) := T.foldl (fun o y => if y.1 = (l : Int) then uniO o (some (G y.2.toNat)) else o) none
def onceO (G : Nat → Nat → Bool) (p : Nat) (T : List S) (l : Nat) : Option (Nat → Bool) := if l = 0 then some (G p) else onceT G T l
theorem onceT_snoc (G : Nat → Nat → Bool) (T : List S) (y : S) (l : Nat) : onceT G (T ++ [y]) l = if y.1 = (l : Int) then uniO (onceT G T l) (some (G y.2.toNat)) else onceT G T l := by
  unfold onceT; rw [List.foldl_append]; rfl
theorem onceO_skip (G : Nat → Nat → Bool) (p : Nat) (T : List S) {y : S} (h : y.1 = 0) (l : Nat) : onceO G p (T ++ [y]) l = onceO G p T l := by
  unfold onceO
  by_cases hl : l = 0
  · rw [if_pos hl, if_pos hl]
  · rw [if_neg hl, if_neg hl, onceT_snoc, if_neg (by omega)]
theorem onceO_step (G : Nat → Nat → Bool) (p : Nat) (T : List S) {y : S} {k u : Nat} (h : y = ((k : Int), (u : Int))) (hk : k ≠ 0) (l : Nat) : onceO G p (T ++ [y]) l = if l = k then some (orF (getO (onceO G p T k)) (G u)) else onceO G p T l := by
  subst h
  unfold onceO
  by_cases hl : l = 0
  · rw [if_pos hl, if_pos hl, if_neg (by omega)]
  · rw [if_neg hl, if_neg hl, onceT_snoc, if_neg hk]
    simp only [Int.toNat_natCast]
    by_cases e : l = k
    · subst e; rw [if_pos rfl, if_pos rfl, uni_some]
    · rw [if_neg (by omega), if_neg e]
theorem onceT_some (G : Nat → Nat → Bool) (l : Nat) : ∀ (T : List S) (o : Option (Nat → Bool)), (T.foldl (fun o y => if y.1 = (l : Int) then uniO o (some (G y.2.toNat)) else o) o).isSome = (o.isSome || T.any (fun y => decide (y.1 = (l : Int))))
  | [], o => by simp
  | y :: T, o => by
    rw [List.foldl_cons, onceT_some G l T, List.any_cons]
    by_cases h : y.1 = (l : Int)
    · rw [if_pos h, some_uni]; simp [h]
    · rw [if_neg h]; simp [h]
theorem onceT_get (G : Nat → Nat → Bool) (l x : Nat) : ∀ (T : List S) (o : Option (Nat → Bool)), getO (T.foldl (fun o y => if y.1 = (l : Int) then uniO o (some (G y.2.toNat)) else o) o) x = (getO o x || T.any (fun y => decide (y.1 = (l : Int)) && G y.2.toNat x))
  | [], o => by simp
  | y :: T, o => by
    rw [List.foldl_cons, onceT_get G l x T, List.any_cons]
    by_cases h : y.1 = (l : Int)
    · rw [if_pos h, getO_uni]; simp [h, getO, Bool.or_assoc]
    · rw [if_neg h]; simp [h]
/-- What a set tells. -/
def OnceOk (s : Lts) (G : Nat → Nat → Bool) (p : Nat) (l : Int) (o : Option (Nat → Bool)) : Prop :=
  (o.isSome = true ↔ ∃ t, one s p l t) ∧ ∀ x, getO o x = true ↔ ∃ t, one s p l t ∧ G t x = true
theorem onceO_ok {s g : Lts} (hg : ∀ (p : Nat) (l : Int) (t : Nat), (l, (t : Int)) ∈ g.outs (p : Int) ↔ stp s p l t) (hgr : g.Right) (G : Nat → Nat → Bool) (p l : Nat) : OnceOk s G p (l : Int) (onceO G p (g.outs (p : Int)) l) := by
  unfold onceO OnceOk
  by_cases hl : l = 0
  · subst hl
    rw [if_pos rfl]
    refine ⟨⟨fun _ => ⟨p, .inl ⟨rfl, rfl⟩⟩, fun _ => rfl⟩, fun x => ⟨fun h => ⟨p, .inl ⟨rfl, rfl⟩, h⟩, ?_⟩⟩
    rintro ⟨t, h1, h2⟩
    rcases h1 with ⟨_, rfl⟩ | ⟨h, _⟩
    · exact h2
    · exact absurd rfl h
  · rw [if_neg hl]
    have hl2 : ¬ (l : Int) = 0 := by omega
    have key : ∀ (P : Nat → Bool), ((g.outs (p : Int)).any (fun y => decide (y.1 = (l : Int)) && P y.2.toNat) = true ↔ ∃ t, one s p (l : Int) t ∧ P t = true) := by
      intro P
      rw [List.any_eq_true]
      constructor
      · rintro ⟨⟨a, b⟩, h1, h2⟩
        have h3 := offB_false.1 (hgr.edges _ (mem_outs.1 h1))
        simp only at h3
        obtain ⟨b, rfl⟩ := Int.eq_ofNat_of_zero_le h3.2.2.2.2.1
        simp only [Bool.and_eq_true, decide_eq_true_eq, Int.toNat_natCast] at h2
        obtain ⟨rfl, h2⟩ := h2
        exact ⟨b, .inr ⟨hl2, (hg p _ b).1 h1⟩, h2⟩
      · rintro ⟨t, h1, h2⟩
        rcases h1 with ⟨h, _⟩ | ⟨_, h1⟩
        · exact absurd h hl2
        · exact ⟨((l : Int), (t : Int)), (hg p _ t).2 h1, by simp [h2]⟩
    unfold onceT
    constructor
    · rw [onceT_some]
      have h1 := key (fun _ => true)
      simp only [Bool.and_true, and_true] at h1
      simpa using h1
    · intro x
      rw [onceT_get]
      have h1 := key (fun t => G t x)
      simpa [getO] using h1
/-- .. gathered over the states that silent steps lead to. -/
def outO (E : Nat → Nat → Option (Nat → Bool)) (M : List Nat) (l : Nat) : Option (Nat → Bool) := M.foldl (fun o m => uniO o (E m l)) none
theorem outO_snoc (E : Nat → Nat → Option (Nat → Bool)) (M : List Nat) (m l : Nat) : outO E (M ++ [m]) l = uniO (outO E M l) (E m l) := by unfold outO; rw [List.foldl_append]; rfl
theorem outO_some (E : Nat → Nat → Option (Nat → Bool)) (l : Nat) : ∀ (M : List Nat) (o : Option (Nat → Bool)), (M.foldl (fun o m => uniO o (E m l)) o).isSome = (o.isSome || M.any (fun m => (E m l).isSome))
  | [], o => by simp
  | m :: M, o => by rw [List.foldl_cons, outO_some E l M, List.any_cons, some_uni, Bool.or_assoc]
theorem outO_get (E : Nat → Nat → Option (Nat → Bool)) (l x : Nat) : ∀ (M : List Nat) (o : Option (Nat → Bool)), getO (M.foldl (fun o m => uniO o (E m l)) o) x = (getO o x || M.any (fun m => getO (E m l) x))
  | [], o => by simp
  | m :: M, o => by rw [List.foldl_cons, outO_get E l x M, List.any_cons, getO_uni, Bool.or_assoc]
theorem outO_ok {s : Lts} {n : Nat} (hr : s.Right) (hn : s.st = (n : Int)) {G : Nat → Nat → Bool} {E : Nat → Nat → Option (Nat → Bool)} {p l : Nat} (hp : p < n) (hE : ∀ m, m < n → OnceOk s G m (l : Int) (E m l)) {M : List Nat} (hM : ∀ m, m ∈ M ↔ TR s p m) : EndsOk s G p (l : Int) (outO E M l) := by
  have h1 : (outO E M l).isSome = M.any (fun m => (E m l).isSome) := by unfold outO; rw [outO_some]; simp
  have h2 : ∀ x, getO (outO E M l) x = M.any (fun m => getO (E m l) x) := fun x => by unfold outO; rw [outO_get]; simp [getO]
  have k1 : (outO E M l).isSome = true ↔ ∃ m t, TR s p m ∧ one s m (l : Int) t := by
    rw [h1, List.any_eq_true]
    constructor
    · rintro ⟨m, h3, h4⟩
      have h5 := (hM m).1 h3
      obtain ⟨t, h6⟩ := ((hE m (h5.ltW hr hn hp)).1).1 h4
      exact ⟨m, t, h5, h6⟩
    · rintro ⟨m, t, h3, h4⟩
      exact ⟨m, (hM m).2 h3, ((hE m (h3.ltW hr hn hp)).1).2 ⟨t, h4⟩⟩
  have k2 : ∀ x, getO (outO E M l) x = true ↔ ∃ m t, TR s p m ∧ one s m (l : Int) t ∧ G t x = true := fun x => by
    rw [h2, List.any_eq_true]
    constructor
    · rintro ⟨m, h3, h4⟩
      have h5 := (hM m).1 h3
      obtain ⟨t, h6, h7⟩ := ((hE m (h5.ltW hr hn hp)).2 x).1 h4
      exact ⟨m, t, h5, h6, h7⟩
    · rintro ⟨m, t, h3, h4, h5⟩
      exact ⟨m, (hM m).2 h3, ((hE m (h3.ltW hr hn hp)).2 x).2 ⟨t, h4, h5⟩⟩
  unfold EndsOk
  cases e : outO E M l with
  | none =>
    rw [e] at k1
    simp only
    intro h
    have := k1.2 h
    simp at this
  | some F =>
    rw [e] at k1 k2
    simp only
    exact ⟨k1.1 rfl, k2⟩
end Pl
end Go.Proofs.YtclannenknhfpaaGreatDoor

namespace Go.Proofs.YtclannenknhfpaaGreatDoor
open Go.RowKit Pl

def wkV (o : Option (Nat → Bool)) (b W : Nat) : Value := match o with | none => .slice none 0 0 | some _ => .slice (some ⟨b, 0, none⟩) W W
def updO {α : Type} (R : Nat → α) (k : Nat) (o : α) (l : Nat) : α := if l = k then o else R l
theorem updO_same {α : Type} (R : Nat → α) (k : Nat) (o : α) : updO R k o k = o := if_pos rfl
theorem updO_ne {α : Type} (R : Nat → α) {k l : Nat} (o : α) (h : l ≠ k) : updO R k o l = R l := if_neg h

section
variable {w w' : World} {tb rb lb WD z : Nat} {R : Nat → Option (Nat → Bool)} {bk : Nat → Nat}
variable {hi hi' : Nat}
variable {n i : Nat} {x : Value} {T : Nat → Nat → Option (Nat → Bool)}
end
end Go.Proofs.YtclannenknhfpaaGreatDoor

namespace Go.Proofs.YtclannenknhfpaaGreatDoor
open Go.RowKit Pl

/-- What the caller's function tells of each state: sets that lie where they lay. -/
def EndAt (w : World) (n WD : Nat) (fn : Nat) (cap : Value) (G : Nat → Nat → Bool) (gbk : Nat → Nat) : Prop :=
  (∀ t, t < n → BitRow w (gbk t) WD (G t)) ∧ ∀ V, Below w.heap.size w V → ∀ t : Nat, t < n → Calls Tryz.prog fn #[.int .i64 t, cap] V fun e V' => e = .returned (.slice (some ⟨gbk t, 0, none⟩) WD WD) ∧ Below V.heap.size V V'

end Go.Proofs.YtclannenknhfpaaGreatDoor

namespace Go.Proofs.YtclannenknhfpaaGreatDoor
open Go.RowKit Pl

def weakName : ByteArray := ⟨#[119, 101, 97, 107]⟩
/-- A fault of this layer over one of the layer system. -/
def FaultW (w : World) (p : Addr) (v : Value) : Prop := ∃ vi, FaultAt w v weakName vi ∧ FaultAt w vi sysName (.iface 197 (.pointer (some p)))
theorem FaultW.below {w w' : World} {p : Addr} {v : Value} (h : FaultW w p v) (hB : Below w.heap.size w w') : FaultW w' p v := by
  obtain ⟨vi, h1, h2⟩ := h
  exact ⟨vi, h1.below hB, h2.below hB⟩
end Go.Proofs.YtclannenknhfpaaGreatDoor

namespace Go.Proofs.YtclannenknhfpaaGreatDoor
open Go.RowKit Pl

theorem refOn_any (l x : ByteArray) (hl : l.size ≤ 1000) (hx : x.size ≤ 1000) {k : Int} (hk : k ≠ 0) (i j : Int) (w : World) : Calls Tryz.prog 78 #[.string l, .agg #[.int .i64 k, .int .i64 i, .int .i64 j, .string x]] w fun e w' => e = .returned (.agg #[.int .i64 k, .int .i64 i, .int .i64 j, .string (l ++ ⟨#[32]⟩ ++ x)]) ∧ Below w.heap.size w w' := by
  have hz1 : ¬ 9223372036854775807 < l.size + 1 := by omega
  have hz2 : ¬ 9223372036854775807 < l.size + 1 + x.size := by omega
  have hk1 : (k == 0) = false := by simp [hk]
  go_enter Tryz.func78, Tryz.ntmps78
  go_wp2_with fail
  refine bodyPost_ret (v := .agg #[.int .i64 k, .int .i64 i, .int .i64 j, .string (l ++ ⟨#[32]⟩ ++ x)]) (by simp [results, Tryz.results78, go_sem]) rfl ⟨rfl, ((Below.refl _ _).alloc (Nat.le_refl _) _).alloc (by simp) _⟩

theorem errC {w : World} {B : Nat} {x y z : Int} {u : ByteArray} (h : w.heap[B]? = some (.cells #[.int .i64 x, .int .i64 y, .int .i64 z, .string u] 37 (0, 0))) :
    (w.cell? ⟨B, 0, none⟩ = some (.int .i64 x) ∧ w.cell? ⟨B, 1, none⟩ = some (.int .i64 y) ∧ w.cell? ⟨B, 2, none⟩ = some (.int .i64 z) ∧ w.cell? ⟨B, 3, none⟩ = some (.string u)) ∧ (w.frozen? ⟨B, 0, none⟩ = false ∧ w.frozen? ⟨B, 1, none⟩ = false ∧ w.frozen? ⟨B, 2, none⟩ = false ∧ w.frozen? ⟨B, 3, none⟩ = false) ∧ B < w.heap.size := by
  refine ⟨⟨?_, ?_, ?_, ?_⟩, ⟨?_, ?_, ?_, ?_⟩, (Array.getElem?_eq_some_iff.1 h).1⟩ <;> simp [World.cell?, World.frozen?, h]
theorem errW (w : World) (o : Obj) : Below w.heap.size w ((w.alloc o).alloc (Obj.cells #[.int .i64 0, .int .i64 0, .int .i64 0, .string ⟨#[]⟩] 37)) ∧ ((w.alloc o).alloc (Obj.cells #[.int .i64 0, .int .i64 0, .int .i64 0, .string ⟨#[]⟩] 37)).heap[w.heap.size + 1]? = some (.cells #[.int .i64 0, .int .i64 0, .int .i64 0, .string ⟨#[]⟩] 37 (0, 0)) := by
  refine ⟨((Below.refl _ _).alloc (Nat.le_refl _) _).alloc (by simp) _, ?_⟩
  have h := heap_alloc_new (w.alloc o) (Obj.cells #[.int .i64 0, .int .i64 0, .int .i64 0, .string ⟨#[]⟩] 37)
  rw [show (w.alloc o).heap.size = w.heap.size + 1 by simp] at h
  exact h
theorem errS {w w' : World} (h : Below w.heap.size w w') (a b c d : Value) : Below w.heap.size w ((((w'.setCell ⟨w.heap.size + 1, 0, none⟩ a).setCell ⟨w.heap.size + 1, 1, none⟩ b).setCell ⟨w.heap.size + 1, 2, none⟩ c).setCell ⟨w.heap.size + 1, 3, none⟩ d) :=
  (((h.setCell (by show w.heap.size ≤ w.heap.size + 1; omega) _).setCell (by show w.heap.size ≤ w.heap.size + 1; omega) _).setCell (by show w.heap.size ≤ w.heap.size + 1; omega) _).setCell (by show w.heap.size ≤ w.heap.size + 1; omega) _

set_option maxRecDepth 100000 in
theorem refCheck_no {s : Lts} (h : ¬ s.Right) {a : Option Addr} {b off c : Nat} {w : World} (hS : SlAt encE 3 w a b off s.es) :
    Calls Tryz.prog 23 #[.agg #[.int .i64 s.st, .int .i64 s.lb, .int .i64 s.s0, .slice a s.es.length c]] w fun e w' => e = .returned (.agg #[.int .i64 14, .int .i64 0, .int .i64 0, .string (sysName ++ ⟨#[32]⟩)]) ∧ Below w.heap.size w w' := by
  have hbd := bad_any sysName (by decide) 14
  obtain ⟨el, hel⟩ : ∃ el, el = s.es.length := ⟨_, rfl⟩
  have hR : ∀ V, Below w.heap.size w V → _ := fun V (hV : Below w.heap.size w V) => right_no (c := c) h (hS.below hV (Nat.le_refl _))
  rw [← hel] at hR ⊢
  obtain ⟨hB0, hE0⟩ := errW w (Obj.cells #[.int .i64 s.st, .int .i64 s.lb, .int .i64 s.s0, .slice a el c] 24)
  have HR := Lib.hid (hR _ hB0); have HB0 := Lib.hid hB0; have HE0 := Lib.hid hE0
  unfold sysName at hbd ⊢
  clear hS h hel hR hB0 hE0
  go_enter Tryz.func23, Tryz.ntmps23
  go_wp2_with fail
  refine HR.out.mono ?_
  rintro e w2 ⟨rfl, hB2⟩
  have hx2 := (hB2.block (w.heap.size + 1) (by simp)).trans HE0.out
  have hb2 := HB0.out.trans (hB2.mono HB0.out.size)
  have HX2 := Lib.hid hx2; have HB2 := Lib.hid hb2
  clear hx2 hb2 hB2 HR HB0 HE0
  go_wp2_with fail
  refine (hbd _).mono ?_
  rintro e w3 ⟨rfl, hB3⟩
  have hx3 := (hB3.block _ (Array.getElem?_eq_some_iff.1 HX2.out).1).trans HX2.out
  have HB3 := Lib.hid (HB2.out.trans (hB3.mono HB2.out.size))
  obtain ⟨⟨z0, z1, z2, z3⟩, ⟨f0, f1, f2, f3⟩, zl⟩ := errC hx3
  clear hx3 hB3 HX2 HB2 hbd
  go_wp2_with fail
  refine bodyPost_ret (v := .agg #[.int .i64 14, .int .i64 0, .int .i64 0, .string (⟨#[115, 121, 115, 116, 101, 109]⟩ ++ ⟨#[32]⟩)]) (by simp [results, Tryz.results23, go_sem, z0, z1, z2, z3]) rfl ⟨rfl, errS HB3.out _ _ _ _⟩

set_option maxRecDepth 100000 in
theorem refHanded_no (l : ByteArray) (hl : l.size ≤ 900) {s : Lts} (h : ¬ s.Right) {a : Option Addr} {b off c : Nat} {w : World} (hS : SlAt encE 3 w a b off s.es) :
    Calls Tryz.prog 46 #[.string l, .agg #[.int .i64 s.st, .int .i64 s.lb, .int .i64 s.s0, .slice a s.es.length c]] w fun e w' => e = .returned (.agg #[.int .i64 14, .int .i64 0, .int .i64 0, .string (l ++ ⟨#[32]⟩ ++ sysName ++ ⟨#[32]⟩)]) ∧ Below w.heap.size w w' := by
  obtain ⟨hB0, hE0⟩ := errW w (Obj.cells #[.int .i64 s.st, .int .i64 s.lb, .int .i64 s.s0, .slice a s.es.length c] 24)
  have HCK := Lib.hid (refCheck_no (c := c) h (hS.below hB0 (Nat.le_refl _)))
  have hon := refOn_any l (sysName ++ ⟨#[32]⟩) (by omega) (by decide) (k := 14) (by decide) 0 0
  rw [← ByteArray.append_assoc] at hon
  obtain ⟨el, hel⟩ : ∃ el, el = s.es.length := ⟨_, rfl⟩
  rw [← hel] at HCK hB0 hE0 ⊢
  have HB0 := Lib.hid hB0; have HE0 := Lib.hid hE0
  obtain ⟨sx, hsx⟩ : ∃ sx, sx = sysName ++ ⟨#[32]⟩ := ⟨_, rfl⟩
  obtain ⟨rx, hrx⟩ : ∃ rx, rx = l ++ ⟨#[32]⟩ ++ sysName ++ ⟨#[32]⟩ := ⟨_, rfl⟩
  rw [← hsx] at HCK
  rw [← hrx] at hon ⊢
  rw [← hsx] at hon
  clear hS h hel hB0 hE0 hsx hrx
  go_enter Tryz.func46, Tryz.ntmps46
  go_wp2_with fail
  refine HCK.out.mono ?_
  rintro e w2 ⟨rfl, hB2⟩
  have hx2 := (hB2.block (w.heap.size + 1) (by simp)).trans HE0.out
  have hb2 := HB0.out.trans (hB2.mono HB0.out.size)
  have HX2 := Lib.hid hx2; have HB2 := Lib.hid hb2
  clear hx2 hb2 hB2 HCK HB0 HE0
  go_wp2_with fail
  refine (hon _).mono ?_
  rintro e w3 ⟨rfl, hB3⟩
  have hx3 := (hB3.block _ (Array.getElem?_eq_some_iff.1 HX2.out).1).trans HX2.out
  have HB3 := Lib.hid (HB2.out.trans (hB3.mono HB2.out.size))
  obtain ⟨⟨z0, z1, z2, z3⟩, ⟨f0, f1, f2, f3⟩, zl⟩ := errC hx3
  clear hx3 hB3 HX2 HB2 hon
  go_wp2_with fail
  refine bodyPost_ret (v := .agg #[.int .i64 14, .int .i64 0, .int .i64 0, .string rx]) (by simp [results, Tryz.results46, go_sem, z0, z1, z2, z3]) rfl ⟨rfl, errS HB3.out _ _ _ _⟩

end Go.Proofs.YtclannenknhfpaaGreatDoor

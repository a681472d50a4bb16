/-
  Lemmas.
-/
import Derived.Test.YtbaccmlfnbgehaaGreatDoorGRefRight
import Derived.Test.YtbaccmlfnbgehaaGreatDoorGBrP
import Derived.Test.YtbaccmlfnbgehaaGreatDoorGOMap
import Derived.Test.YtbaccmlfnbgehaaGreatDoorGBkRow
import Derived.Test.YtbaccmlfnbgehaaGreatDoorGRows2
import Derived.Deep.QuietTactic
import Derived.BigQuiet
import Derived.BigRegion
import Derived.Deep.RegionHeldLaw
import Derived.Test.YtbaccmlfnbgehaaGreatDoorGCardBase
import Derived.Test.YtbaccmlfnbgehaaGreatDoorGLentS
import Derived.Test.YtbaccmlfnbgehaaGreatDoorGCanon
import Derived.Test.YtbaccmlfnbgehaaGreatDoorGLaidErr
namespace Go.Proofs.YtbaccmlfnbgehaaGreatDoor
open Go.RowKit Pl
section
variable {s : Lts} {n : Nat} {f : Nat → Int} {D : List Nat}
structure BlkO (s : Lts) (n : Nat) (f : Nat → Int) (D : List Nat) : Prop where
  right : s.Right
  st : s.st = (n : Int)
  cyc : Cyc s n f
  ord : OrdL (col s (fl n (clf n f))) (dist (fl n f)).length D
  all : ∀ k, k < (dist (fl n f)).length → k ∈ D
def blkO (n : Nat) (f : Nat → Int) (k : Nat) : List Nat := clsM (fl n (clf n f)) n k
def ordO (n : Nat) (f : Nat → Int) (D : List Nat) : List Nat := D.flatMap (blkO n f)
def offO (n : Nat) (f : Nat → Int) (D : List Nat) (d : Nat) : Nat := (ordO n f (D.take d)).length
theorem mem_blkO {x k : Nat} : x ∈ blkO n f k ↔ x < n ∧ asF n f x = k := by
  unfold blkO
  rw [mem_clsM]
  constructor
  · rintro ⟨h1, h2⟩
    rw [fl_get _ h1, asF_eq h1] at h2
    simp only [Option.some.injEq] at h2
    exact ⟨h1, by omega⟩
  · rintro ⟨h1, rfl⟩
    exact ⟨h1, by rw [fl_get _ h1, asF_eq h1]⟩
theorem mem_ordO {x : Nat} {L : List Nat} : x ∈ ordO n f L ↔ x < n ∧ asF n f x ∈ L := by
  unfold ordO
  rw [List.mem_flatMap]
  constructor
  · rintro ⟨k, hk, hx⟩
    obtain ⟨h1, rfl⟩ := mem_blkO.1 hx
    exact ⟨h1, hk⟩
  · rintro ⟨h1, h2⟩
    exact ⟨_, h2, mem_blkO.2 ⟨h1, rfl⟩⟩
theorem ordO_K (n : Nat) (f : Nat → Int) (D : List Nat) : (D.flatMap fun k : Nat => memK (fl n (clf n f)) n (k : Int)) = (ordO n f D).map Int.ofNat := flat_N _ _ _
theorem BlkO.nodup (h : BlkO s n f D) : D.Nodup := h.ord.nodup
theorem BlkO.rng (h : BlkO s n f D) {k : Nat} (hk : k ∈ D) : k < (dist (fl n f)).length := h.ord.rng k hk
theorem BlkO.len (h : BlkO s n f D) : (ordO n f D).length = n := by
  have h1 := flat_le (fl n (clf n f)) n h.nodup
  have h2 := flat_all (C := fl n (clf n f)) (n := n) (M := (dist (fl n f)).length) (fun x hx => cls_in hx) h.all
  rw [ordO_K, List.length_map] at h1 h2
  omega
theorem take_succ {d k : Nat} (hd : D[d]? = some k) : D.take (d + 1) = D.take d ++ [k] := by rw [List.take_add_one, hd]; rfl
theorem ordO_succ {d k : Nat} (hd : D[d]? = some k) : ordO n f (D.take (d + 1)) = ordO n f (D.take d) ++ blkO n f k := by
  rw [take_succ hd]; simp [ordO]
theorem ordO_split {d k : Nat} (hd : D[d]? = some k) : ordO n f D = ordO n f (D.take d) ++ (blkO n f k ++ ordO n f (D.drop (d + 1))) := by
  have h2 : ordO n f D = ordO n f (D.take (d + 1)) ++ ordO n f (D.drop (d + 1)) := by
    unfold ordO
    rw [← List.flatMap_append, List.take_append_drop]
  rw [h2, ordO_succ hd, List.append_assoc]
theorem BlkO.more (h : BlkO s n f D) {d : Nat} (hd : offO n f D d < n) : ∃ k, D[d]? = some k := by
  by_cases hl : d < D.length
  · exact ⟨D[d], List.getElem?_eq_getElem hl⟩
  · exfalso
    have := h.len
    unfold offO at hd
    rw [List.take_of_length_le (by omega)] at hd
    omega
theorem BlkO.next (h : BlkO s n f D) {d k y : Nat} (hd : D[d]? = some k) (hy : (ordO n f D)[offO n f D d + (blkO n f k).length]? = some y) : y < n ∧ asF n f y ≠ k := by
  rw [ordO_split hd] at hy
  unfold offO at hy
  rw [List.getElem?_append_right (by omega), Nat.add_sub_cancel_left, List.getElem?_append_right (by omega), Nat.sub_self] at hy
  have h1 := mem_ordO.1 (List.mem_of_getElem? hy)
  refine ⟨h1.1, fun e => ?_⟩
  rw [e] at h1
  have h2 := h.nodup
  rw [show D = D.take (d + 1) ++ D.drop (d + 1) from (List.take_append_drop _ _).symm, List.nodup_append] at h2
  exact h2.2.2 k (by rw [take_succ hd]; simp) k h1.2 rfl
theorem BlkO.ahead (h : BlkO s n f D) {d k p t : Nat} (hd : D[d]? = some k) (hp : p < n) (hpk : asF n f p = k) (hs : tau s p t) (hne : asF n f t ≠ k) : t ∈ ordO n f (D.take d) := by
  have hl := stp_lt h.right h.st hs
  refine mem_ordO.2 ⟨hl.2.1, ?_⟩
  have h1 : tau (col s (fl n (clf n f))) k (asF n f t) := (stp_col h.right h.st).2 ⟨p, t, hp, hl.2.1, hs, hpk, rfl, fun e => hne e.2.symm⟩
  exact h.ord.ahead (col_right h.right h.st) (col_srt _ _) d k _ hd h1
theorem BlkO.same (h : BlkO s n f D) {x y : Nat} (hx : x < n) (hy : y < n) (e : asF n f x = asF n f y) : TR s x y ∧ TR s y x := (asF_same h.cyc hx hy).1 e
end
end Go.Proofs.YtbaccmlfnbgehaaGreatDoor
namespace Go.Proofs.YtbaccmlfnbgehaaGreatDoor
open Go.RowKit Pl
namespace Pl
def silT (n : Nat) (f : Nat → Int) (F : Nat → Nat → Bool) (q : Nat) (T : List Int) (x : Nat) : Bool := T.any (fun t => !decide (asF n f t.toNat = asF n f q) && F t.toNat x)
def silB (s : Lts) (n : Nat) (f : Nat → Int) (F : Nat → Nat → Bool) (q x : Nat) : Bool := decide (x = q) || silT n f F q (withL 0 (s.outs (q : Int))) x
def silR (s : Lts) (n : Nat) (f : Nat → Int) (F : Nat → Nat → Bool) (L : List Nat) (x : Nat) : Bool := L.any (fun q => silB s n f F q x)
def silW (s : Lts) (n : Nat) (f : Nat → Int) (F : Nat → Nat → Bool) (L : List Nat) (q : Nat) (T : List Int) (x : Nat) : Bool := putF (silR s n f F L) q x || silT n f F q T x
section
variable {s : Lts} {n : Nat} {f : Nat → Int} {F : Nat → Nat → Bool} {D : List Nat}
end
end Pl
end Go.Proofs.YtbaccmlfnbgehaaGreatDoor
namespace Go.Proofs.YtbaccmlfnbgehaaGreatDoor
open Go.RowKit Pl
structure SilT (w : World) (lo sb n : Nat) (F : Nat → Nat → Bool) (I : List Nat) : Prop where
  ex : ∃ bk : Nat → Nat, w.rowIs sb 124 n (fun p => if p ∈ I then .slice (some ⟨bk p, 0, none⟩) (wds n) (wds n) else .slice none 0 0) ∧ ∀ p, p ∈ I → bk p ≠ sb ∧ lo ≤ bk p ∧ BitRow w (bk p) (wds n) (F p)
section
variable {w w' : World} {lo sb n : Nat} {F : Nat → Nat → Bool} {I : List Nat}
theorem SilT.call (h : SilT w lo sb n F I) (hB : Below w.heap.size w w') : SilT w' lo sb n F I := by
  obtain ⟨bk, h1, h2⟩ := h.ex
  exact ⟨bk, h1.of_block (hB.block sb h1.lt), fun p hp => ⟨(h2 p hp).1, (h2 p hp).2.1, (h2 p hp).2.2.below hB⟩⟩
theorem SilT.at (h : SilT w lo sb n F I) {p : Nat} (hp : p < n) (hi : p ∈ I) : ∃ b, w.cell? ⟨sb, p, none⟩ = some (.slice (some ⟨b, 0, none⟩) (wds n) (wds n)) ∧ b < w.heap.size ∧ BitRow w b (wds n) (F p) := by
  obtain ⟨bk, h1, h2⟩ := h.ex
  have h3 := h1.cell hp
  rw [if_pos hi] at h3
  exact ⟨bk p, h3, (h2 p hi).2.2.lt, (h2 p hi).2.2⟩
theorem SilT.frozen (h : SilT w lo sb n F I) (p : Nat) : w.frozen? ⟨sb, p, none⟩ = false := by obtain ⟨bk, h1, _⟩ := h.ex; exact h1.frozen p
theorem SilT.congr {G : Nat → Nat → Bool} (h : SilT w lo sb n F I) (e : ∀ p, p ∈ I → F p = G p) : SilT w lo sb n G I := by
  obtain ⟨bk, h1, h2⟩ := h.ex
  exact ⟨bk, h1, fun p hp => ⟨(h2 p hp).1, (h2 p hp).2.1, by rw [← e p hp]; exact (h2 p hp).2.2⟩⟩
theorem SilT.put (h : SilT w lo sb n F I) {rb p : Nat} {R : Nat → Bool} (hb : BitRow w rb (wds n) R) (hne : rb ≠ sb) (hlo : lo ≤ rb) :
    SilT (w.setCell ⟨sb, p, none⟩ (.slice (some ⟨rb, 0, none⟩) (wds n) (wds n))) lo sb n (fun q => if q = p then R else F q) (I ++ [p]) := by
  obtain ⟨bk, h1, h2⟩ := h.ex
  refine ⟨fun q => if q = p then rb else bk q, (h1.set p _).congr (fun q _ => ?_), fun q hq => ?_⟩
  · by_cases e : q = p
    · subst e; simp
    · simp [e]
  · by_cases e : q = p
    · subst e
      simp only [if_true]
      exact ⟨hne, hlo, hb.of_block (Below.heap_setCell _ _ _ _ hne)⟩
    · have hi : q ∈ I := by simpa [e] using hq
      simp only [if_neg e]
      exact ⟨(h2 q hi).1, (h2 q hi).2.1, (h2 q hi).2.2.of_block (Below.heap_setCell _ _ _ _ (h2 q hi).1)⟩
theorem SilT.all (h : SilT w lo sb n F I) (hI : ∀ p, p < n → p ∈ I) : SilT w lo sb n F (List.range n) := by
  obtain ⟨bk, h1, h2⟩ := h.ex
  exact ⟨bk, h1.congr (fun p hp => by rw [if_pos (hI p hp), if_pos (List.mem_range.2 hp)]), fun p hp => h2 p (hI p (List.mem_range.1 hp))⟩
theorem SilT.made (w : World) (lo n : Nat) (F : Nat → Nat → Bool) : SilT (w.alloc (.cells (madeCells #[.slice none 0 0] n) 124)) lo w.heap.size n F [] :=
  ⟨fun _ => 0, (World.rowIs_made w (.slice none 0 0) n 124).congr (fun _ _ => by simp), fun p hp => by simp at hp⟩
end
end Go.Proofs.YtbaccmlfnbgehaaGreatDoor
namespace Go.Proofs.YtbaccmlfnbgehaaGreatDoor
open Go.RowKit Pl
namespace Pl
def getO (o : Option (Nat → Bool)) (x : Nat) : Bool := match o with | none => false | some F => F x
def uniO (a b : Option (Nat → Bool)) : Option (Nat → Bool) := match a, b with
  | o, none => o
  | none, some G => some G
  | some F, some G => some (orF F G)
def onceT (G : Nat → Nat → Bool) (T : List S) (l : Nat) : Option (Nat → Bool) := T.foldl (fun o y => if y.1 = (l : Int) then uniO o (some (G y.2.toNat)) else o) none
def onceO (G : Nat → Nat → Bool) (p : Nat) (T : List S) (l : Nat) : Option (Nat → Bool) := if l = 0 then some (G p) else onceT G T l
def OnceOk (s : Lts) (G : Nat → Nat → Bool) (p : Nat) (l : Int) (o : Option (Nat → Bool)) : Prop :=
  (o.isSome = true ↔ ∃ t, one s p l t) ∧ ∀ x, getO o x = true ↔ ∃ t, one s p l t ∧ G t x = true
def outO (E : Nat → Nat → Option (Nat → Bool)) (M : List Nat) (l : Nat) : Option (Nat → Bool) := M.foldl (fun o m => uniO o (E m l)) none
end Pl
end Go.Proofs.YtbaccmlfnbgehaaGreatDoor
namespace Go.Proofs.YtbaccmlfnbgehaaGreatDoor
open Go.RowKit Pl
def wkV (o : Option (Nat → Bool)) (b W : Nat) : Value := match o with | none => .slice none 0 0 | some _ => .slice (some ⟨b, 0, none⟩) W W
def updO {α : Type} (R : Nat → α) (k : Nat) (o : α) (l : Nat) : α := if l = k then o else R l
theorem updO_same {α : Type} (R : Nat → α) (k : Nat) (o : α) : updO R k o k = o := if_pos rfl
theorem updO_ne {α : Type} (R : Nat → α) {k l : Nat} (o : α) (h : l ≠ k) : updO R k o l = R l := if_neg h
structure WkAt (w : World) (tb rb lb WD z : Nat) (R : Nat → Option (Nat → Bool)) (bk : Nat → Nat) : Prop where
  row : w.rowIs rb 124 lb (fun l => wkV (R l) (bk l) WD)
  bit : ∀ l, l < lb → ∀ F, R l = some F → BitRow w (bk l) WD F
  own : ∀ l, l < lb → z ≤ l → ∀ F, R l = some F → rb < bk l
  old : ∀ l, l < lb → l < z → ∀ F, R l = some F → bk l < tb
  apart : ∀ l l', l < lb → l' < lb → z ≤ l → z ≤ l' → l ≠ l' → ∀ F F', R l = some F → R l' = some F' → bk l ≠ bk l'
  lt : tb < rb
section
variable {w w' : World} {tb rb lb WD z : Nat} {R : Nat → Option (Nat → Bool)} {bk : Nat → Nat}
theorem WkAt.ne (h : WkAt w tb rb lb WD z R bk) {l : Nat} (hl : l < lb) {F : Nat → Bool} (hF : R l = some F) : bk l ≠ rb := by
  have := h.lt
  by_cases hz : z ≤ l
  · have := h.own l hl hz F hF; omega
  · have := h.old l hl (by omega) F hF; omega
theorem WkAt.call (h : WkAt w tb rb lb WD z R bk) (hB : Below w.heap.size w w') : WkAt w' tb rb lb WD z R bk :=
  ⟨h.row.of_block (hB.block rb h.row.lt), fun l hl F hF => (h.bit l hl F hF).below hB, h.own, h.old, h.apart, h.lt⟩
theorem WkAt.start (h : w.rowIs rb 124 lb (fun _ => .slice none 0 0)) (hlt : tb < rb) (z : Nat) : WkAt w tb rb lb WD z (fun _ => none) (fun _ => 0) :=
  ⟨h, fun _ _ _ e => by simp at e, fun _ _ _ _ e => by simp at e, fun _ _ _ _ e => by simp at e, fun _ _ _ _ _ _ _ _ _ e => by simp at e, hlt⟩
theorem WkAt.zero (h : WkAt w tb rb lb WD 1 R bk) {gb : Nat} {G : Nat → Bool} (hg : BitRow w gb WD G) (hgb : gb < tb) :
    WkAt (w.setCell ⟨rb, 0, none⟩ (.slice (some ⟨gb, 0, none⟩) WD WD)) tb rb lb WD 1 (updO R 0 (some G)) (updO bk 0 gb) := by
  have hlt := h.lt
  refine ⟨(h.row.set 0 _).congr (fun l _ => ?_), fun l hl F hF => ?_, fun l hl hz F hF => ?_, fun l hl hz F hF => ?_, fun l l' hl hl' hz hz' hne F F' hF hF' => ?_, h.lt⟩
  · unfold updO
    by_cases e : l = 0
    · rw [if_pos e, if_pos e, if_pos e]; rfl
    · rw [if_neg e, if_neg e, if_neg e]
  · by_cases e : l = 0
    · subst e
      rw [updO_same] at hF ⊢
      cases hF
      exact hg.of_block (Below.heap_setCell _ _ _ _ (by show gb ≠ rb; omega))
    · rw [updO_ne _ _ e] at hF ⊢
      exact (h.bit l hl F hF).of_block (Below.heap_setCell _ _ _ _ (h.ne hl hF))
  · rw [updO_ne _ _ (by omega)] at hF ⊢
    exact h.own l hl hz F hF
  · obtain rfl : l = 0 := by omega
    rw [updO_same]; exact hgb
  · rw [updO_ne _ _ (by omega)] at hF hF' ⊢
    rw [updO_ne _ _ (by omega)]
    exact h.apart l l' hl hl' hz hz' hne F F' hF hF'
theorem WkAt.new (h : WkAt w tb rb lb WD z R bk) {k nb : Nat} {G : Nat → Bool} (hB : Below w.heap.size w w') (hg : BitRow w' nb WD G) (hnb : w.heap.size ≤ nb) (hz : z ≤ k) :
    WkAt (w'.setCell ⟨rb, k, none⟩ (.slice (some ⟨nb, 0, none⟩) WD WD)) tb rb lb WD z (updO R k (some G)) (updO bk k nb) := by
  have hlt := h.lt
  have hrl := h.row.lt
  have h' := h.call hB
  refine ⟨(h'.row.set k _).congr (fun l _ => ?_), fun l hl F hF => ?_, fun l hl hz F hF => ?_, fun l hl hz2 F hF => ?_, fun l l' hl hl' hzl hz' hne F F' hF hF' => ?_, h.lt⟩
  · unfold updO
    by_cases e : l = k
    · rw [if_pos e, if_pos e, if_pos e]; rfl
    · rw [if_neg e, if_neg e, if_neg e]
  · by_cases e : l = k
    · subst e
      rw [updO_same] at hF ⊢
      cases hF
      exact hg.of_block (Below.heap_setCell _ _ _ _ (by show nb ≠ rb; omega))
    · rw [updO_ne _ _ e] at hF ⊢
      exact (h'.bit l hl F hF).of_block (Below.heap_setCell _ _ _ _ (h'.ne hl hF))
  · by_cases e : l = k
    · subst e; rw [updO_same]; omega
    · rw [updO_ne _ _ e] at hF ⊢
      exact h.own l hl hz F hF
  · rw [updO_ne _ _ (by omega)] at hF ⊢
    exact h.old l hl hz2 F hF
  · by_cases e : l = k
    · subst e
      rw [updO_ne _ _ (Ne.symm hne)] at hF'
      rw [updO_same, updO_ne _ _ (Ne.symm hne)]
      have := (h.bit l' hl' F' hF').lt
      omega
    · by_cases e' : l' = k
      · subst e'
        rw [updO_ne _ _ e] at hF
        rw [updO_same, updO_ne _ _ e]
        have := (h.bit l hl F hF).lt
        omega
      · rw [updO_ne _ _ e] at hF
        rw [updO_ne _ _ e'] at hF'
        rw [updO_ne _ _ e, updO_ne _ _ e']
        exact h.apart l l' hl hl' hzl hz' hne F F' hF hF'
theorem WkAt.join (h : WkAt w tb rb lb WD z R bk) {k : Nat} (hk : k < lb) (hz : z ≤ k) {F G : Nat → Bool} (hF : R k = some F) (hg : BitRow w' (bk k) WD G) (hc : Chg w w' (bk k)) : WkAt w' tb rb lb WD z (updO R k (some G)) bk := by
  have hlt := h.lt
  have hko := h.own k hk hz F hF
  refine ⟨(h.row.of_block (hc.oth rb (by omega) h.row.lt)).congr (fun l hl => ?_), fun l hl F' hF' => ?_, fun l hl hz F' hF' => ?_, fun l hl hz2 F' hF' => ?_, fun l l' hl hl' hzl hz' hne F1 F2 hF1 hF2 => ?_, h.lt⟩
  · by_cases e : l = k
    · subst e; rw [updO_same, hF]; rfl
    · rw [updO_ne _ _ e]
  · by_cases e : l = k
    · subst e; rw [updO_same] at hF'; cases hF'; exact hg
    · rw [updO_ne _ _ e] at hF'
      have hb := h.bit l hl F' hF'
      refine hb.of_block (hc.oth (bk l) ?_ hb.lt)
      by_cases hzl : z ≤ l
      · exact h.apart l k hl hk hzl hz e F' F hF' hF
      · have := h.old l hl (by omega) F' hF'; omega
  · by_cases e : l = k
    · subst e; exact hko
    · rw [updO_ne _ _ e] at hF'; exact h.own l hl hz F' hF'
  · rw [updO_ne _ _ (by omega)] at hF'; exact h.old l hl hz2 F' hF'
  · have s1 : ∃ F, R l = some F := by
      by_cases e : l = k
      · exact ⟨F, by rw [e]; exact hF⟩
      · rw [updO_ne _ _ e] at hF1; exact ⟨F1, hF1⟩
    have s2 : ∃ F, R l' = some F := by
      by_cases e : l' = k
      · exact ⟨F, by rw [e]; exact hF⟩
      · rw [updO_ne _ _ e] at hF2; exact ⟨F2, hF2⟩
    obtain ⟨A, hA⟩ := s1
    obtain ⟨B, hB⟩ := s2
    exact h.apart l l' hl hl' hzl hz' hne A B hA hB
theorem WkAt.congr {R' : Nat → Option (Nat → Bool)} (h : WkAt w tb rb lb WD z R bk) (e : ∀ l, R l = R' l) : WkAt w tb rb lb WD z R' bk := by
  have : R = R' := funext e
  rw [← this]; exact h
structure WkR (w : World) (tb hi rb lb WD : Nat) (R : Nat → Option (Nat → Bool)) : Prop where
  lt : rb < hi
  ne : rb ≠ tb
  ex : ∃ bk : Nat → Nat, w.rowIs rb 124 lb (fun l => wkV (R l) (bk l) WD) ∧ ∀ l, l < lb → ∀ F, R l = some F → BitRow w (bk l) WD F ∧ bk l < hi ∧ bk l ≠ tb
theorem WkAt.done (h : WkAt w tb rb lb WD z R bk) : WkR w tb w.heap.size rb lb WD R :=
  ⟨h.row.lt, by have := h.lt; omega, bk, h.row, fun l hl F hF => ⟨h.bit l hl F hF, (h.bit l hl F hF).lt, by
    have := h.lt
    by_cases hz : z ≤ l
    · have := h.own l hl hz F hF; omega
    · have := h.old l hl (by omega) F hF; omega⟩⟩
variable {hi hi' : Nat}
theorem WkR.below (h : WkR w tb hi rb lb WD R) (hB : Below hi w w') : WkR w' tb hi rb lb WD R := by
  obtain ⟨bk, h1, h2⟩ := h.ex
  exact ⟨h.lt, h.ne, bk, h1.of_block (hB.block rb h.lt), fun l hl F hF => ⟨(h2 l hl F hF).1.of_block (hB.block _ (h2 l hl F hF).2.1), (h2 l hl F hF).2⟩⟩
theorem WkR.mono (h : WkR w tb hi rb lb WD R) (hh : hi ≤ hi') : WkR w tb hi' rb lb WD R := by
  obtain ⟨bk, h1, h2⟩ := h.ex
  exact ⟨Nat.lt_of_lt_of_le h.lt hh, h.ne, bk, h1, fun l hl F hF => ⟨(h2 l hl F hF).1, Nat.lt_of_lt_of_le (h2 l hl F hF).2.1 hh, (h2 l hl F hF).2.2⟩⟩
theorem WkR.setT (h : WkR w tb hi rb lb WD R) (j : Nat) (v : Value) : WkR (w.setCell ⟨tb, j, none⟩ v) tb hi rb lb WD R := by
  obtain ⟨bk, h1, h2⟩ := h.ex
  exact ⟨h.lt, h.ne, bk, h1.of_block (Below.heap_setCell _ _ _ _ h.ne), fun l hl F hF => ⟨(h2 l hl F hF).1.of_block (Below.heap_setCell _ _ _ _ (h2 l hl F hF).2.2), (h2 l hl F hF).2⟩⟩
theorem WkR.at (h : WkR w tb hi rb lb WD R) {l : Nat} (hl : l < lb) : ∃ b, w.cell? ⟨rb, l, none⟩ = some (wkV (R l) b WD) ∧ ∀ F, R l = some F → BitRow w b WD F ∧ b < hi := by
  obtain ⟨bk, h1, h2⟩ := h.ex
  exact ⟨bk l, h1.cell hl, fun F hF => ⟨(h2 l hl F hF).1, (h2 l hl F hF).2.1⟩⟩
structure WkT (w : World) (hi tb n lb WD i : Nat) (x : Value) (R : Nat → Nat → Option (Nat → Bool)) : Prop where
  lt : tb < hi
  ex : ∃ rbk : Nat → Nat, w.rowIs tb 120 n (fun p => if p < i then .slice (some ⟨rbk p, 0, none⟩) lb lb else if p = i then x else .slice none 0 0) ∧ ∀ p, p < i → WkR w tb hi (rbk p) lb WD (R p)
variable {n i : Nat} {x : Value} {T : Nat → Nat → Option (Nat → Bool)}
theorem WkT.below (h : WkT w hi tb n lb WD i x T) (hB : Below hi w w') : WkT w' hi tb n lb WD i x T := by
  obtain ⟨rbk, h1, h2⟩ := h.ex
  exact ⟨h.lt, rbk, h1.of_block (hB.block tb h.lt), fun p hp => (h2 p hp).below hB⟩
theorem WkT.mono (h : WkT w hi tb n lb WD i x T) (hh : hi ≤ hi') : WkT w hi' tb n lb WD i x T := by
  obtain ⟨rbk, h1, h2⟩ := h.ex
  exact ⟨Nat.lt_of_lt_of_le h.lt hh, rbk, h1, fun p hp => (h2 p hp).mono hh⟩
theorem WkT.made (w : World) (n lb WD : Nat) (T : Nat → Nat → Option (Nat → Bool)) : WkT (w.alloc (.cells (madeCells #[.slice none 0 0] n) 120)) (w.heap.size + 1) w.heap.size n lb WD 0 (.slice none 0 0) T :=
  ⟨by omega, fun _ => 0, (World.rowIs_made w (.slice none 0 0) n 120).congr (fun p _ => by simp), fun p hp => by omega⟩
theorem WkT.frozen (h : WkT w hi tb n lb WD i x T) (p : Nat) : w.frozen? ⟨tb, p, none⟩ = false := by obtain ⟨_, h1, _⟩ := h.ex; exact h1.frozen p
theorem WkT.here (h : WkT w hi tb n lb WD i x T) (hi2 : i < n) : w.cell? ⟨tb, i, none⟩ = some x := by
  obtain ⟨_, h1, _⟩ := h.ex
  have := h1.cell hi2
  rw [if_neg (by omega), if_pos rfl] at this
  exact this
theorem WkT.at (h : WkT w hi tb n lb WD i x T) {p : Nat} (hp : p < i) (hpn : p < n) : ∃ rb, w.cell? ⟨tb, p, none⟩ = some (.slice (some ⟨rb, 0, none⟩) lb lb) ∧ WkR w tb hi rb lb WD (T p) := by
  obtain ⟨rbk, h1, h2⟩ := h.ex
  have := h1.cell hpn
  rw [if_pos hp] at this
  exact ⟨rbk p, this, h2 p hp⟩
theorem WkT.open (h : WkT w hi tb n lb WD i x T) (v : Value) : WkT (w.setCell ⟨tb, i, none⟩ v) hi tb n lb WD i v T := by
  obtain ⟨rbk, h1, h2⟩ := h.ex
  refine ⟨h.lt, rbk, (h1.set i v).congr (fun p _ => ?_), fun p hp => (h2 p hp).setT i v⟩
  by_cases e : p = i
  · subst e; rw [if_pos rfl, if_neg (by omega), if_pos rfl]
  · rw [if_neg e, if_neg e, if_neg e]
theorem WkT.congr {T' : Nat → Nat → Option (Nat → Bool)} (h : WkT w hi tb n lb WD i x T) (e : ∀ p, p < i → T p = T' p) : WkT w hi tb n lb WD i x T' := by
  obtain ⟨rbk, h1, h2⟩ := h.ex
  exact ⟨h.lt, rbk, h1, fun p hp => by rw [← e p hp]; exact h2 p hp⟩
end
end Go.Proofs.YtbaccmlfnbgehaaGreatDoor
namespace Go.Proofs.YtbaccmlfnbgehaaGreatDoor
open Go.RowKit Pl
structure StepsAt (w : World) (xb gb sb n : Nat) (s : Lts) (F : Nat → Nat → Bool) : Prop where
  blk : w.heap[xb]? = some (.cells #[.pointer (some ⟨gb, 0, none⟩), .slice (some ⟨sb, 0, none⟩) n n] 122 (0, 0))
  gr : GraphAt w gb s.norm
  right : s.Right
  st : s.st = (n : Int)
  sil : SilT w 0 sb n F (List.range n)
  tr : ∀ p, p < n → ∀ x, F p x = true ↔ TR s p x
theorem StepsAt.call {w w' : World} {xb gb sb n : Nat} {s : Lts} {F : Nat → Nat → Bool} (h : StepsAt w xb gb sb n s F) (hB : Below w.heap.size w w') : StepsAt w' xb gb sb n s F :=
  ⟨(hB.block xb (Array.getElem?_eq_some_iff.1 h.blk).1).trans h.blk, h.gr.below hB, h.right, h.st, h.sil.call hB, h.tr⟩
theorem StepsAt.cells {w : World} {xb gb sb n : Nat} {s : Lts} {F : Nat → Nat → Bool} (h : StepsAt w xb gb sb n s F) : w.cell? ⟨xb, 0, none⟩ = some (.pointer (some ⟨gb, 0, none⟩)) ∧ w.cell? ⟨xb, 1, none⟩ = some (.slice (some ⟨sb, 0, none⟩) n n) ∧ xb < w.heap.size := by
  have := h.blk
  exact ⟨by simp [World.cell?, this], by simp [World.cell?, this], (Array.getElem?_eq_some_iff.1 this).1⟩
def EndAt (w : World) (n WD : Nat) (fn : Nat) (cap : Value) (G : Nat → Nat → Bool) (gbk : Nat → Nat) : Prop :=
  (∀ t, t < n → BitRow w (gbk t) WD (G t)) ∧ ∀ V, Below w.heap.size w V → ∀ t : Nat, t < n → Calls Tryz.prog fn #[.int .i64 t, cap] V fun e V' => e = .returned (.slice (some ⟨gbk t, 0, none⟩) WD WD) ∧ Below V.heap.size V V'
end Go.Proofs.YtbaccmlfnbgehaaGreatDoor
namespace Go.Proofs.YtbaccmlfnbgehaaGreatDoor
open Go.RowKit Pl
def weakName : ByteArray := ⟨#[119, 101, 97, 107]⟩
structure WkErr (p : Addr) (w : World) : Prop where
  sys : GErr 15 p w
  blk : ∃ c t, w.heap[p.block]? = some (.cells c t (0, 0))
  great : SentQ 11 p w
theorem WkErr.below {p : Addr} {w w' : World} (h : WkErr p w) (hB : Below w.heap.size w w') : WkErr p w' :=
  ⟨h.sys.below hB, by obtain ⟨c, t, h1⟩ := h.blk; exact ⟨c, t, by rw [hB.block _ (Array.getElem?_eq_some_iff.1 h1).1]; exact h1⟩, h.great.below hB⟩
def FaultW (w : World) (p : Addr) (v : Value) : Prop := ∃ vi, FaultAt w v weakName vi ∧ FaultAt w vi sysName (.iface 278 (.pointer (some p)))
theorem FaultW.below {w w' : World} {p : Addr} {v : Value} (h : FaultW w p v) (hB : Below w.heap.size w w') : FaultW w' p v := by
  obtain ⟨vi, h1, h2⟩ := h
  exact ⟨vi, h1.below hB, h2.below hB⟩
end Go.Proofs.YtbaccmlfnbgehaaGreatDoor
namespace Go.Proofs.YtbaccmlfnbgehaaGreatDoor
open Go.RowKit Pl
end Go.Proofs.YtbaccmlfnbgehaaGreatDoor
namespace Go.Proofs.YtbaccmlfnbgehaaGreatDoor
open Go.RowKit Pl
open Lib (hid)
set_option maxRecDepth 100000 in
theorem light17_any {s : Lts} {a : Option Addr} {b off c : Nat} {w : World} (hS : SlAt encE 3 w a b off s.es) :
    Calls Tryz.prog 5 #[.agg #[.int .i64 s.st, .int .i64 s.lb, .int .i64 s.s0, .slice a s.es.length c]] w fun e w' => ∃ bv : Bool, e = .returned (.bool bv) ∧ (bv = true → (s.st ≤ 30 ∧ s.es.length ≤ 200) ∨ ((¬ s.Right ∨ 300 < s.st) ∧ s.es.length ≤ 11000)) ∧ Below w.heap.size w w' := by
  obtain ⟨W, hW⟩ : ∃ W, W = w.alloc (Obj.cells #[.int .i64 s.st, .int .i64 s.lb, .int .i64 s.s0, .slice a s.es.length c] 24) := ⟨_, rfl⟩
  have hB0 : Below w.heap.size w W := by rw [hW]; exact (Below.refl w.heap.size w).alloc (Nat.le_refl _) _
  have hbx := heap_alloc_new w (Obj.cells #[.int .i64 s.st, .int .i64 s.lb, .int .i64 s.s0, .slice a s.es.length c] 24)
  rw [← hW] at hbx
  have hRY : s.Right → _ := fun h => right_yes (c := c) h (hS.below hB0 (Nat.le_refl _))
  have hRN : ¬ s.Right → _ := fun h => right_no (c := c) h (hS.below hB0 (Nat.le_refl _))
  obtain ⟨el, hel⟩ : ∃ el, el = s.es.length := ⟨_, rfl⟩
  rw [← hel] at hRY hRN hbx hW ⊢
  have HRY := hid hRY; have HRN := hid hRN; have HB0 := hid hB0; have HW := hid hW; have HBX := hid hbx
  obtain ⟨x0, x1, x2, x3, x4⟩ := sysC hbx
  clear hS hel hRY hRN hB0 hW hbx
  by_cases h1 : s.st ≤ 30
  · by_cases h2 : (el : Int) ≤ 200
    · have e1 : decide (s.st ≤ 30) = true := by simp [h1]
      have e2 : decide ((el : Int) ≤ 200) = true := by simp [h2]
      go_enter Tryz.func5, Tryz.ntmps5
      go_wp2_with fail
      rw [← HW.out]
      go_wp2_with fail
      go_ret
      exact ⟨_, rfl, fun _ => .inl ⟨h1, by omega⟩, HB0.out⟩
    · have e1 : decide (s.st ≤ 30) = true := by simp [h1]
      have e2 : decide ((el : Int) ≤ 200) = false := by simp [h2]
      by_cases hr : s.Right
      · have HR := hid (HRY.out hr)
        clear HRY HRN
        go_enter Tryz.func5, Tryz.ntmps5
        go_wp2_with fail
        rw [← HW.out]
        go_wp2_with fail
        refine HR.out.mono ?_
        rintro e w2 ⟨rfl, hB2⟩
        obtain ⟨y0, y1, y2, y3, y4⟩ := sysC ((hB2.block w.heap.size x4).trans HBX.out)
        have HB2 := hid (HB0.out.trans (hB2.mono HB0.out.size))
        have e3 : decide (300 < s.st) = false := by simp; omega
        clear hB2 x0 x1 x2 x3 x4 HW HBX HB0 HR
        go_wp2_with fail
        go_ret
        exact ⟨_, rfl, fun h => by simp at h, HB2.out⟩
      · have HR := hid (HRN.out hr)
        clear HRY HRN
        go_enter Tryz.func5, Tryz.ntmps5
        go_wp2_with fail
        rw [← HW.out]
        go_wp2_with fail
        refine HR.out.mono ?_
        rintro e w2 ⟨rfl, hB2⟩
        obtain ⟨y0, y1, y2, y3, y4⟩ := sysC ((hB2.block w.heap.size x4).trans HBX.out)
        have HB2 := hid (HB0.out.trans (hB2.mono HB0.out.size))
        clear hB2 x0 x1 x2 x3 x4 HW HBX HB0 HR
        go_wp2_with fail
        go_ret
        exact ⟨_, rfl, fun h => .inr ⟨.inl hr, by simp at h; omega⟩, HB2.out⟩
  · have e1 : decide (s.st ≤ 30) = false := by simp [h1]
    by_cases hr : s.Right
    · have HR := hid (HRY.out hr)
      clear HRY HRN
      by_cases h3 : 300 < s.st
      · have e3 : decide (300 < s.st) = true := by simp [h3]
        go_enter Tryz.func5, Tryz.ntmps5
        go_wp2_with fail
        rw [← HW.out]
        go_wp2_with fail
        refine HR.out.mono ?_
        rintro e w2 ⟨rfl, hB2⟩
        obtain ⟨y0, y1, y2, y3, y4⟩ := sysC ((hB2.block w.heap.size x4).trans HBX.out)
        have HB2 := hid (HB0.out.trans (hB2.mono HB0.out.size))
        clear hB2 x0 x1 x2 x3 x4 HW HBX HB0 HR
        go_wp2_with fail
        go_ret
        exact ⟨_, rfl, fun h => .inr ⟨.inr h3, by simp at h; omega⟩, HB2.out⟩
      · have e3 : decide (300 < s.st) = false := by simp [h3]
        go_enter Tryz.func5, Tryz.ntmps5
        go_wp2_with fail
        rw [← HW.out]
        go_wp2_with fail
        refine HR.out.mono ?_
        rintro e w2 ⟨rfl, hB2⟩
        obtain ⟨y0, y1, y2, y3, y4⟩ := sysC ((hB2.block w.heap.size x4).trans HBX.out)
        have HB2 := hid (HB0.out.trans (hB2.mono HB0.out.size))
        clear hB2 x0 x1 x2 x3 x4 HW HBX HB0 HR
        go_wp2_with fail
        go_ret
        exact ⟨_, rfl, fun h => by simp at h, HB2.out⟩
    · have HR := hid (HRN.out hr)
      clear HRY HRN
      go_enter Tryz.func5, Tryz.ntmps5
      go_wp2_with fail
      rw [← HW.out]
      go_wp2_with fail
      refine HR.out.mono ?_
      rintro e w2 ⟨rfl, hB2⟩
      obtain ⟨y0, y1, y2, y3, y4⟩ := sysC ((hB2.block w.heap.size x4).trans HBX.out)
      have HB2 := hid (HB0.out.trans (hB2.mono HB0.out.size))
      clear hB2 x0 x1 x2 x3 x4 HW HBX HB0 HR
      go_wp2_with fail
      go_ret
      exact ⟨_, rfl, fun h => .inr ⟨.inl hr, by simp at h; omega⟩, HB2.out⟩
end Go.Proofs.YtbaccmlfnbgehaaGreatDoor
namespace Go.Proofs.YtbaccmlfnbgehaaGreatDoor
open Go.RowKit Pl
open Lib (hid)
theorem Pl.idsN_no {F : Nat → Bool} {m : Nat} (h : F m = false) : idsN F (m + 1) = idsN F m := by
  refine idsN_gap 1 (fun k hk => ?_)
  obtain rfl : k = 0 := by omega
  simpa using h
theorem intsOf_hit {F : Nat → Bool} {m : Nat} (h : F m = true) : intsOf (idsN F (m + 1)) = intsOf (idsN F m) ++ [(m : Int)] := by
  rw [idsN_hit h]; simp [intsOf]
set_option maxRecDepth 100000 in
theorem refRow_any {n c : Nat} {g : Nat → Bool} {w : World} {rb : Nat} (hR : w.rowIs rb 4 n (fun j => .bool (g j))) (hn : n ≤ 1000) :
    Calls Tryz.prog 15 #[.slice (some ⟨rb, 0, none⟩) n c] w fun e w' => ∃ v, e = .returned v ∧ w'.ownsRow w.heap.size 3 1 v (intsOf (idsN g n)).length ((intsOf (idsN g n)).flatMap encI) ∧ Below w.heap.size w w' := by
  have HR := hid hR
  clear hR
  go_enter Tryz.func15, Tryz.ntmps15
  go_wp2_with fail
  go_loopw [3, 4] (fun v3 v4 wr => ∃ k : Nat, k ≤ n ∧ v4 = .int .i64 k ∧ wr.ownsRow w.heap.size 3 1 v3 (intsOf (idsN g k)).length ((intsOf (idsN g k)).flatMap encI) ∧ Below w.heap.size w wr) (fun _ v4 _ => n - (intOf v4).toNat)
  case atStart => exact ⟨0, Nat.zero_le _, rfl, World.ownsRow_nil _ _ _ _, Below.refl _ _⟩
  case round =>
    obtain ⟨k, hk, rfl, hown, hnx⟩ := hrel
    by_cases hlt : k < n
    · have hkI : (k : Int) < (n : Int) := by omega
      have hrw := HR.out.of_block (hnx.block _ HR.out.lt)
      have c0 := hrw.cell hlt
      have cl := hrw.lt
      have hle : (intsOf (idsN g k)).length ≤ n := by rw [intsOf_len]; exact Nat.le_trans (idsN_le g k) hk
      have hsz := hnx.size
      obtain ⟨gk, hgk⟩ : ∃ gk, gk = g k := ⟨_, rfl⟩
      rw [← hgk] at c0
      have HGK := hid hgk
      clear hrw hgk
      cases gk
      · have HQ : Hid (intsOf (idsN g (k + 1)) = intsOf (idsN g k)) := hid (by rw [idsN_no HGK.out.symm])
        have HO := hid hown; have HN := hid hnx
        clear hown hnx
        go_wp2_with fail
        go_roundw
        case rel => exact ⟨k + 1, by omega, by go_num, by rw [HQ.out]; exact HO.out, HN.out⟩
        case measure => simp [intOf]; omega
      · have HQ : Hid (intsOf (idsN g (k + 1)) = intsOf (idsN g k) ++ [(k : Int)]) := hid (intsOf_hit HGK.out.symm)
        obtain ⟨L, hL⟩ : ∃ L, L = intsOf (idsN g k) := ⟨_, rfl⟩
        rw [← hL] at HQ hown hle
        obtain ⟨ll, hll⟩ : ∃ ll, ll = L.length := ⟨_, rfl⟩
        obtain ⟨fl', hfl⟩ : ∃ fl', fl' = L.flatMap encI := ⟨_, rfl⟩
        rw [← hll, ← hfl] at hown
        rw [← hll] at hle
        have HFL := hid hfl; have HLL := hid hll
        clear hL hll hfl
        go_wp2_with (at_builtin; refine wpList_app rfl _ _ _ rfl rowI (hnx.alloc hsz _) (by simp; omega) rfl (hown.alloc _) ⟨wr.heap.size, 0, none⟩ 1 1 [.int .i64 (k : Int)] rfl rfl (cells1 (by simp [go_sem])) (by simp [Value.oneCell']) (by omega) (by unfold maxLen; omega) ?_; intro v' w1 hown1 hb1 _)
        have HO := hid hown1; have HB := hid hb1
        clear hown hnx hown1 hb1
        go_roundw
        case rel => exact ⟨k + 1, by omega, by go_num, by rw [HQ.out, List.length_append, List.flatMap_append, ← HFL.out, ← HLL.out]; exact HO.out, HB.out⟩
        case measure => simp [intOf]; omega
    · go_wp2_with fail
      go_ret
      obtain rfl : k = n := by omega
      exact ⟨_, rfl, hown, hnx⟩
end Go.Proofs.YtbaccmlfnbgehaaGreatDoor

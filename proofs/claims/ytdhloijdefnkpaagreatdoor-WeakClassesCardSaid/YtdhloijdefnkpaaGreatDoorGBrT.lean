/-
  Plain: a signature's text tells the signature; refined classes are more.
  Plain: branching bisimilarity of a system and of its collapsed one; signatures as lists; rounds.
-/
import Derived.Test.YtdhloijdefnkpaaGreatDoorGPl12
import Derived.Lib.ItoaLen
namespace Go.Proofs.YtdhloijdefnkpaaGreatDoor
namespace Pl
open Go.Lib

/-! decimal numerals -/
theorem dec_rng : ∀ (u : Nat), ∀ c ∈ decDigits u, 48 ≤ c.toNat ∧ c.toNat ≤ 57 := by
  intro u
  induction u using Nat.strongRecOn with
  | ind u ih =>
    intro c hc
    rw [decDigits] at hc
    split at hc
    · simp only [List.mem_singleton] at hc
      subst hc
      simp; omega
    · rw [List.mem_append] at hc
      rcases hc with h | h
      · exact ih (u / 10) (by omega) c h
      · simp only [List.mem_singleton] at h
        subst h
        simp; omega
theorem dec_ne (u : Nat) : decDigits u ≠ [] := by
  rw [decDigits]; split <;> simp
theorem digit_inj {a b : Nat} (ha : a < 10) (hb : b < 10) (h : UInt8.ofNat (48 + a) = UInt8.ofNat (48 + b)) : a = b := by
  have := congrArg UInt8.toNat h
  simp at this; omega
theorem dec_inj : ∀ (u v : Nat), decDigits u = decDigits v → u = v := by
  intro u
  induction u using Nat.strongRecOn with
  | ind u ih =>
    intro v h
    rw [decDigits, decDigits.eq_def v] at h
    by_cases hu : u < 10 <;> by_cases hv : v < 10
    · rw [dif_pos hu, dif_pos hv] at h
      simp only [List.cons.injEq, and_true] at h
      exact digit_inj hu hv h
    · rw [dif_pos hu, dif_neg hv] at h
      have := congrArg List.length h
      have h2 := List.length_pos_iff.2 (dec_ne (v / 10))
      simp only [List.length_append, List.length_cons, List.length_nil] at this; omega
    · rw [dif_neg hu, dif_pos hv] at h
      have := congrArg List.length h
      have h2 := List.length_pos_iff.2 (dec_ne (u / 10))
      simp only [List.length_append, List.length_cons, List.length_nil] at this; omega
    · rw [dif_neg hu, dif_neg hv] at h
      obtain ⟨h1, h2⟩ := List.append_inj' h rfl
      simp only [List.cons.injEq, and_true] at h2
      have e1 := ih (u / 10) (by omega) (v / 10) h1
      have e2 := digit_inj (by omega) (by omega) h2
      omega
theorem itoa_no (x : Int) : (32 : UInt8) ∉ itoa x := by
  unfold itoa
  have k : ∀ u, (32 : UInt8) ∉ decDigits u := fun u h => by
    have := dec_rng u _ h
    simp at this
  split
  · rw [List.mem_cons]
    rintro (h | h)
    · exact absurd h (by decide)
    · exact k _ h
  · exact k _
theorem itoa_inj {x y : Int} (h : itoa x = itoa y) : x = y := by
  have k : ∀ u, (45 : UInt8) ∉ decDigits u := fun u h => by
    have := dec_rng u _ h
    simp at this
  unfold itoa at h
  by_cases hx : x < 0 <;> by_cases hy : y < 0
  · rw [if_pos hx, if_pos hy] at h
    have := dec_inj _ _ (List.cons.inj h).2
    omega
  · rw [if_pos hx, if_neg hy] at h
    exact absurd (by rw [← h]; simp) (k y.toNat)
  · rw [if_neg hx, if_pos hy] at h
    exact absurd (by rw [h]; simp) (k x.toNat)
  · rw [if_neg hx, if_neg hy] at h
    have := dec_inj _ _ h
    omega
theorem split32 : ∀ {a b r r' : List UInt8}, (32 : UInt8) ∉ a → (32 : UInt8) ∉ b → a ++ 32 :: r = b ++ 32 :: r' → a = b ∧ r = r'
  | [], [], _, _, _, _, h => ⟨rfl, (List.cons.inj h).2⟩
  | [], y :: b, _, _, _, hb, h => by
    have := (List.cons.inj h).1
    exact absurd (by rw [← this]; simp) hb
  | x :: a, [], _, _, ha, _, h => by
    have := (List.cons.inj h).1
    exact absurd (by rw [this]; simp) ha
  | x :: a, y :: b, r, r', ha, hb, h => by
    obtain ⟨rfl, h2⟩ := List.cons.inj h
    obtain ⟨h3, h4⟩ := split32 (fun h => ha (List.mem_cons_of_mem _ h)) (fun h => hb (List.mem_cons_of_mem _ h)) h2
    exact ⟨by rw [h3], h4⟩
/-- A step's text. -/
def stepT (x : S) : List UInt8 := 32 :: (itoa x.1 ++ 32 :: itoa x.2)
/-- A signature's text. -/
def textB (c : Int) (L : List S) : List UInt8 := itoa c ++ L.flatMap stepT
theorem textB_inj : ∀ {L M : List S} {c d : Int}, textB c L = textB d M → c = d ∧ L = M
  | [], [], c, d, h => by
    unfold textB at h
    simp only [List.flatMap_nil, List.append_nil] at h
    exact ⟨itoa_inj h, rfl⟩
  | [], y :: M, c, d, h => by
    unfold textB at h
    simp only [List.flatMap_nil, List.append_nil, List.flatMap_cons] at h
    exact absurd (by rw [h]; unfold stepT; simp) (itoa_no c)
  | x :: L, [], c, d, h => by
    unfold textB at h
    simp only [List.flatMap_nil, List.append_nil, List.flatMap_cons] at h
    exact absurd (by rw [← h]; unfold stepT; simp) (itoa_no d)
  | x :: L, y :: M, c, d, h => by
    unfold textB at h
    simp only [List.flatMap_cons, stepT, List.cons_append, List.append_assoc] at h
    obtain ⟨h1, h2⟩ := split32 (itoa_no c) (itoa_no d) h
    obtain ⟨h3, h4⟩ := split32 (itoa_no x.1) (itoa_no y.1) h2
    obtain ⟨h5, h6⟩ := textB_inj (L := L) (M := M) (c := x.2) (d := y.2) h4
    exact ⟨itoa_inj h1, by rw [h6, Prod.ext (itoa_inj h3) h5]⟩

/-! more classes -/
theorem nodup_subI : ∀ (L M : List Int), L.Nodup → (∀ x ∈ L, x ∈ M) → L.length ≤ M.length
  | [], M, _, _ => Nat.zero_le _
  | x :: L, M, hn, hs => by
    rw [List.nodup_cons] at hn
    have ih := nodup_subI L (M.erase x) hn.2 (fun y hy => (List.mem_erase_of_ne (fun e : y = x => hn.1 (e ▸ hy))).2 (hs y (List.mem_cons_of_mem _ hy)))
    have h1 := List.length_erase_of_mem (hs x (by simp))
    have h2 := List.length_pos_of_mem (hs x (by simp))
    rw [List.length_cons]; omega
theorem mem_dist_fl {n : Nat} {C : Nat → Int} {c : Int} : c ∈ dist (fl n C) ↔ ∃ p, p < n ∧ C p = c := by
  rw [mem_dist]; unfold fl; rw [List.mem_map]
  exact ⟨fun ⟨p, h1, h2⟩ => ⟨p, List.mem_range.1 h1, h2⟩, fun ⟨p, h1, h2⟩ => ⟨p, List.mem_range.2 h1, h2⟩⟩
theorem more_classes {n : Nat} {C D : Nat → Int} (h : ∀ p q, p < n → q < n → D p = D q → C p = C q) {a b : Nat} (ha : a < n) (hb : b < n) (e1 : C a = C b) (e2 : D a ≠ D b) : (dist (fl n C)).length < (dist (fl n D)).length := by
  have hex : ∀ c : Int, ∃ p : Nat, c ∈ dist (fl n C) → p < n ∧ C p = c := fun c => by
    by_cases hc : c ∈ dist (fl n C)
    · obtain ⟨p, hp⟩ := mem_dist_fl.1 hc
      exact ⟨p, fun _ => hp⟩
    · exact ⟨0, fun h => absurd h hc⟩
  obtain ⟨r, hr⟩ := Classical.axiomOfChoice hex
  have hca : C a ∈ dist (fl n C) := mem_dist_fl.2 ⟨a, ha, rfl⟩
  obtain ⟨x, hxm, hxn⟩ : ∃ x, x ∈ dist (fl n D) ∧ x ∉ (dist (fl n C)).map (fun c => D (r c)) := by
    have key : ∀ z, z < n → C z = C a → D z ∈ (dist (fl n C)).map (fun c => D (r c)) → D z = D (r (C a)) := fun z hz e hm => by
      obtain ⟨c, hc, hcz⟩ := List.mem_map.1 hm
      have h1 := hr c hc
      have h2 := h (r c) z h1.1 hz hcz
      rw [h1.2, e] at h2
      rw [← hcz, h2]
    by_cases k1 : D a ∈ (dist (fl n C)).map (fun c => D (r c))
    · refine ⟨D b, mem_dist_fl.2 ⟨b, hb, rfl⟩, fun k2 => e2 ?_⟩
      rw [key a ha rfl k1, key b hb e1.symm k2]
    · exact ⟨D a, mem_dist_fl.2 ⟨a, ha, rfl⟩, k1⟩
  have hnd : (x :: (dist (fl n C)).map (fun c => D (r c))).Nodup := by
    rw [List.nodup_cons]
    refine ⟨hxn, ?_⟩
    rw [List.Nodup, List.pairwise_map]
    refine List.Pairwise.imp_of_mem ?_ (nodup_dist (fl n C))
    intro c d hc hd hcd e
    have k1 := hr c hc; have k2 := hr d hd
    have := h (r c) (r d) k1.1 k2.1 e
    rw [k1.2, k2.2] at this
    exact hcd this
  have := nodup_subI _ (dist (fl n D)) hnd (fun y hy => by
    rcases List.mem_cons.1 hy with rfl | h1
    · exact hxm
    · obtain ⟨c, hc, rfl⟩ := List.mem_map.1 h1
      exact mem_dist_fl.2 ⟨r c, (hr c hc).1, rfl⟩)
  rw [List.length_cons, List.length_map] at this
  omega
/-- Lists in the one form that say the same together are one. -/
theorem canon_same_list {n : Nat} {C D : Nat → Int} (h1 : canon (fl n C) = fl n C) (h2 : canon (fl n D) = fl n D) (h : ∀ p q, p < n → q < n → (C p = C q ↔ D p = D q)) : fl n C = fl n D := by
  rw [← h1, ← h2, sameT_canon (by rw [fl_len, fl_len])]
  intro i k x y x' y' hki hx hy hx' hy'
  have hi : i < n := by have := (List.getElem?_eq_some_iff.1 hx).1; rwa [fl_len] at this
  have hk : k < n := by omega
  rw [fl_get C hi] at hx; rw [fl_get C hk] at hy; rw [fl_get D hi] at hx'; rw [fl_get D hk] at hy'
  cases hx; cases hy; cases hx'; cases hy'
  exact h i k hi hk
end Pl
end Go.Proofs.YtdhloijdefnkpaaGreatDoor

namespace Go.Proofs.YtdhloijdefnkpaaGreatDoor
namespace Pl

/-- The state of the collapsed system. -/
def asF (n : Nat) (f : Nat → Int) (p : Nat) : Nat := (clf n f p).toNat
theorem asF_eq {n : Nat} {f : Nat → Int} {p : Nat} (hp : p < n) : clf n f p = (asF n f p : Int) := by
  have := (clf_rng (f := f) hp).1
  unfold asF; omega
theorem asF_lt {n : Nat} {f : Nat → Int} {p : Nat} (hp : p < n) : asF n f p < (dist (fl n f)).length := by
  have := clf_rng (f := f) hp
  unfold asF; omega
section
variable {s : Lts} {n : Nat} {f : Nat → Int}
theorem asF_same (hc : Cyc s n f) {x y : Nat} (hx : x < n) (hy : y < n) : asF n f x = asF n f y ↔ TR s x y ∧ TR s y x := by
  rw [← hc.same x y hx hy, ← clf_eq (f := f) hx hy, asF_eq hx, asF_eq hy]
  omega
theorem stp_col (hr : s.Right) (hn : s.st = (n : Int)) {X Y : Nat} {l : Int} : stp (col s (fl n (clf n f))) X l Y ↔ ∃ x y, x < n ∧ y < n ∧ stp s x l y ∧ asF n f x = X ∧ asF n f y = Y ∧ ¬ (l = 0 ∧ X = Y) := by
  unfold stp col
  simp only
  rw [mem_nf stoE, mem_colE]
  constructor
  · rintro ⟨⟨x, l', y⟩, h1, h2, h3⟩
    have h4 := offB_false.1 (hr.edges _ h1)
    simp only at h4 h2 h3
    obtain ⟨x, rfl⟩ := Int.eq_ofNat_of_zero_le h4.1
    obtain ⟨y, rfl⟩ := Int.eq_ofNat_of_zero_le h4.2.2.2.2.1
    have hx : x < n := by omega
    have hy : y < n := by omega
    simp only [Prod.mk.injEq] at h2
    obtain ⟨e1, rfl, e3⟩ := h2
    rw [atL_fl (by omega) (by omega)] at e1 e3
    simp only [Int.toNat_natCast] at e1 e3
    rw [asF_eq hx] at e1
    rw [asF_eq hy] at e3
    exact ⟨x, y, hx, hy, h1, by omega, by omega, fun h => h3 ⟨h.1, by omega⟩⟩
  · rintro ⟨x, y, hx, hy, h1, rfl, rfl, h3⟩
    refine ⟨((x : Int), l, (y : Int)), h1, ?_, fun h => h3 ⟨h.1, by simp only at h; omega⟩⟩
    simp only
    rw [atL_fl (by omega) (by omega), atL_fl (by omega) (by omega)]
    simp only [Int.toNat_natCast]
    rw [asF_eq hx, asF_eq hy]
/-- Within a cycle all do the same. -/
theorem Sg.cycle (hr : s.Right) (hn : s.st = (n : Int)) (hc : Cyc s n f) {C : Nat → Int} {x y : Nat} (hx : x < n) (h : TR s x y) (hb : TR s y x) {l e : Int} (hs : Sg s (fun p => C (asF n f p)) y l e) : Sg s (fun p => C (asF n f p)) x l e := by
  have key : ∀ z, TR s x z → TR s z x → Via s (fun p => C (asF n f p) = C (asF n f x)) x z := by
    intro z hz
    induction hz with
    | refl => exact fun _ => .refl rfl
    | @tail a b h1 h2 ih =>
      intro h3
      have hb := tau_lt hr hn h2
      have e1 : asF n f b = asF n f x := (asF_same hc hb.2 hx).2 ⟨h3, h1.tail h2⟩
      exact .tail (ih ((TR.one h2).trans h3)) h2 (by simp only [e1])
  exact Sg.via (key y h hb) hs
theorem sg_col (hr : s.Right) (hn : s.st = (n : Int)) (hc : Cyc s n f) {C : Nat → Int} {p : Nat} (hp : p < n) {l e : Int} : Sg s (fun p => C (asF n f p)) p l e ↔ Sg (col s (fl n (clf n f))) C (asF n f p) l e := by
  constructor
  · intro h
    clear hp
    induction h with
    | @here p t l h1 h2 =>
      have h3 := stp_lt hr hn h1
      refine Sg.here (C := C) ((stp_col hr hn).2 ⟨p, t, h3.1, h3.2.1, h1, rfl, rfl, fun h => h2 ⟨h.1, by rw [h.2]⟩⟩) h2
    | @on p t l e h1 h2 _ ih =>
      have h3 := stp_lt hr hn h1
      by_cases he : asF n f p = asF n f t
      · rw [he]; exact ih
      · exact .on ((stp_col hr hn).2 ⟨p, t, h3.1, h3.2.1, h1, rfl, rfl, fun h => he h.2⟩) h2 ih
  · intro h
    obtain ⟨X, hX⟩ : ∃ X, X = asF n f p := ⟨_, rfl⟩
    rw [← hX] at h
    induction h generalizing p with
    | @here X T l h1 h2 =>
      obtain ⟨x, t, hx, ht, h3, rfl, rfl, _⟩ := (stp_col hr hn).1 h1
      obtain ⟨h5, h6⟩ := (asF_same hc hx hp).1 hX
      exact Sg.cycle hr hn hc hp h6 h5 (.here (C := fun p => C (asF n f p)) h3 h2)
    | @on X T l e h1 h2 _ ih =>
      obtain ⟨x, t, hx, ht, h3, rfl, rfl, _⟩ := (stp_col hr hn).1 h1
      obtain ⟨h5, h6⟩ := (asF_same hc hx hp).1 hX
      exact Sg.cycle hr hn hc hp h6 h5 (.on h3 h2 (ih ht rfl))
end

/-- Classes that come by rounds. -/
inductive Rounds (s : Lts) (n : Nat) : (Nat → Int) → Prop
  | zero : Rounds s n (fun _ => 0)
  | step {C D : Nat → Int} : Rounds s n C → NextB s n C D → Rounds s n D
theorem Rounds.holds {s : Lts} {n : Nat} {f : Nat → Int} (hr : s.Right) (hn : s.st = (n : Int)) (hc : Cyc s n f) {C : Nat → Int} (h : Rounds (col s (fl n (clf n f))) (dist (fl n f)).length C) : Holds s n (fun p => C (asF n f p)) := by
  induction h with
  | zero => exact fun _ _ _ _ _ _ _ => rfl
  | @step C D _ h2 ih =>
    refine ih.next hr hn (fun p q hp hq => ?_)
    rw [h2 _ _ (asF_lt hp) (asF_lt hq)]
    have e : (∀ l e, Sg (col s (fl n (clf n f))) C (asF n f p) l e ↔ Sg (col s (fl n (clf n f))) C (asF n f q) l e) ↔ ∀ l e, Sg s (fun p => C (asF n f p)) p l e ↔ Sg s (fun p => C (asF n f p)) q l e := by
      constructor
      · intro h l e; rw [sg_col hr hn hc hp, sg_col hr hn hc hq]; exact h l e
      · intro h l e; rw [← sg_col hr hn hc hp, ← sg_col hr hn hc hq]; exact h l e
    rw [e]
/-- What the rounds end in, seen from the system. -/
theorem Rounds.big {s : Lts} {n : Nat} {f : Nat → Int} (hr : s.Right) (hn : s.st = (n : Int)) (hc : Cyc s n f) {C : Nat → Int} (h : Rounds (col s (fl n (clf n f))) (dist (fl n f)).length C) (hs : Still (col s (fl n (clf n f))) (dist (fl n f)).length C) : BrBig s n (fun p => C (asF n f p)) :=
  ⟨fun _ _ hp hq e l x hx => (sg_col hr hn hc hq).2 (hs _ _ (asF_lt hp) (asF_lt hq) e l x ((sg_col hr hn hc hp).1 hx)), h.holds hr hn hc⟩
theorem Sg.congr {s : Lts} {n : Nat} (hr : s.Right) (hn : s.st = (n : Int)) {C D : Nat → Int} (h : ∀ p q, p < n → q < n → (C p = C q ↔ D p = D q)) {p : Nat} (hp : p < n) {l e : Int} (hs : Sg s C p l e) : ∃ t, t < n ∧ C t = e ∧ Sg s D p l (D t) := by
  induction hs with
  | @here p t l h1 h2 =>
    have h3 := stp_lt hr hn h1
    exact ⟨t, h3.2.1, rfl, .here h1 (fun k => h2 ⟨k.1, (h _ _ h3.2.1 h3.1).2 k.2⟩)⟩
  | @on p t l e h1 h2 _ ih =>
    have h3 := stp_lt hr hn h1
    obtain ⟨u, hu, e1, h4⟩ := ih h3.2.1
    exact ⟨u, hu, e1, .on h1 ((h _ _ h3.2.1 h3.1).1 h2) h4⟩
theorem BrBig.congr {s : Lts} {n : Nat} (hr : s.Right) (hn : s.st = (n : Int)) {C D : Nat → Int} (hb : BrBig s n C) (h : ∀ p q, p < n → q < n → (C p = C q ↔ D p = D q)) : BrBig s n D := by
  refine ⟨fun p q hp hq e l x hx => ?_, fun R hR p q hp hq e => (h p q hp hq).1 (hb.all R hR p q hp hq e)⟩
  obtain ⟨t, ht, e1, h1⟩ := hx.congr hr hn (fun a b ha hb => (h a b ha hb).symm) hp
  have h2 := hb.still p q hp hq ((h p q hp hq).2 e) _ _ h1
  obtain ⟨u, hu, e2, h3⟩ := h2.congr hr hn h hq
  rw [← e1, (h t u ht hu).1 e2.symm]
  exact h3
theorem BrBig.clf {s : Lts} {n : Nat} (hr : s.Right) (hn : s.st = (n : Int)) {C : Nat → Int} (hb : BrBig s n C) : BrBig s n (clf n C) := hb.congr hr hn (fun _ _ hp hq => (clf_eq (f := C) hp hq).symm)
theorem BrBig.uniq {s : Lts} {n : Nat} (hr : s.Right) (hn : s.st = (n : Int)) {C D : Nat → Int} (h : BrBig s n C) (h' : BrBig s n D) : fl n (Pl.clf n C) = fl n (Pl.clf n D) := by
  rw [← canon_fl, ← canon_fl, sameT_canon (by rw [fl_len, fl_len])]
  intro i k x y x' y' hki hx hy hx' hy'
  have hi : i < n := by have := (List.getElem?_eq_some_iff.1 hx).1; rwa [fl_len] at this
  have hk : k < n := by omega
  rw [fl_get C hi] at hx; rw [fl_get C hk] at hy; rw [fl_get D hi] at hx'; rw [fl_get D hk] at hy'
  cases hx; cases hy; cases hx'; cases hy'
  exact h.same hr hn h' hi hk

/-! signatures as lists -/
structure SigOk (s : Lts) (C : Nat → Int) (p : Nat) (L : List S) : Prop where
  srt : Srt ltS L
  mem : ∀ l e, (l, e) ∈ L ↔ Sg s C p l e
/-- One step's share. -/
def shareB (C : Nat → Int) (F : Nat → List S) (p : Nat) (x : S) : List S := if x.1 = 0 ∧ C x.2.toNat = C p then F x.2.toNat else [(x.1, C x.2.toNat)]
theorem sig_step {s : Lts} (hr : s.Right) {C : Nat → Int} {F : Nat → List S} {p : Nat} (hF : ∀ t, tau s p t → SigOk s C t (F t)) : SigOk s C p (nf ltS ((s.outs (p : Int)).flatMap (shareB C F p))) := by
  refine ⟨srt_nf stoS _, fun l e => ?_⟩
  rw [mem_nf stoS, List.mem_flatMap]
  constructor
  · rintro ⟨⟨a, b⟩, h1, h2⟩
    have h3 : ((p : Int), a, b) ∈ s.es := mem_outs.1 h1
    have h4 := offB_false.1 (hr.edges _ h3)
    simp only at h4
    obtain ⟨t, rfl⟩ := Int.eq_ofNat_of_zero_le h4.2.2.2.2.1
    unfold shareB at h2
    simp only [Int.toNat_natCast] at h2
    split at h2
    · rename_i hi
      obtain ⟨rfl, hi⟩ := hi
      exact .on h3 hi (((hF t h3).mem l e).1 h2)
    · rename_i hi
      simp only [List.mem_singleton, Prod.mk.injEq] at h2
      obtain ⟨rfl, rfl⟩ := h2
      exact .here h3 hi
  · intro h
    cases h with
    | @here _ t _ h1 h2 => exact ⟨(l, (t : Int)), mem_outs.2 h1, by unfold shareB; simp only [Int.toNat_natCast]; rw [if_neg h2]; simp⟩
    | @on _ t _ _ h1 h2 h3 => exact ⟨(0, (t : Int)), mem_outs.2 h1, by unfold shareB; simp only [Int.toNat_natCast]; rw [if_pos ⟨trivial, h2⟩]; exact ((hF t h1).mem l e).2 h3⟩
theorem SigOk.eq {s : Lts} {C : Nat → Int} {p q : Nat} {L M : List S} (h : SigOk s C p L) (h' : SigOk s C q M) : L = M ↔ ∀ l e, Sg s C p l e ↔ Sg s C q l e := by
  constructor
  · rintro rfl l e; rw [← h.mem, ← h'.mem]
  · intro hs
    exact srt_ext stoS _ _ h.srt h'.srt (fun x => by obtain ⟨l, e⟩ := x; rw [h.mem, h'.mem, hs])
/-- The next round's numbers. -/
theorem next_text {s : Lts} {n : Nat} {C : Nat → Int} {F : Nat → List S} (hF : ∀ p, p < n → SigOk s C p (F p)) {G : Nat → Int} (hG : ∀ p q, p < n → q < n → (G p = G q ↔ textB (C p) (F p) = textB (C q) (F q))) : NextB s n C (clf n G) := fun p q hp hq => by
  rw [clf_eq (f := G) hp hq, hG p q hp hq]
  constructor
  · intro h
    obtain ⟨h1, h2⟩ := textB_inj h
    exact ⟨h1, ((hF p hp).eq (hF q hq)).1 h2⟩
  · rintro ⟨h1, h2⟩
    rw [h1, ((hF p hp).eq (hF q hq)).2 h2]
end Pl
end Go.Proofs.YtdhloijdefnkpaaGreatDoor

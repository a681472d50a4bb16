/-
  Lemmas.
-/
import Derived.Test.YtgikimbafakmcaaGreatDoorGPlS
namespace Go.Proofs.YtgikimbafakmcaaGreatDoor
namespace Pl
abbrev B3 := Nat × Nat × Nat
structure PI (n : Nat) (el pl inn : Nat -> Nat) (bl : List B3) : Prop where
  hel : ∀ i, i < n -> el i < n /\ pl (el i) = i
  hpl : ∀ e, e < n -> pl e < n /\ el (pl e) = e
  blk : ∀ (b : Nat) (x : B3), bl[b]? = some x -> x.1 < x.2.1 /\ x.2.1 <= n /\ x.1 + x.2.2 <= x.2.1
  hin : ∀ e, e < n -> ∃ x : B3, bl[inn e]? = some x /\ x.1 <= pl e /\ pl e < x.2.1
  cov : ∀ (b : Nat) (x : B3) (i : Nat), bl[b]? = some x -> x.1 <= i -> i < x.2.1 -> inn (el i) = b
def Mkd (pl inn : Nat -> Nat) (bl : List B3) (e : Nat) : Prop := ∃ x : B3, bl[inn e]? = some x /\ pl e < x.1 + x.2.2
section
variable {n : Nat} {el pl inn : Nat -> Nat} {bl : List B3}
theorem PI.lt (h : PI n el pl inn bl) {e : Nat} (he : e < n) : inn e < bl.length := by
 obtain ⟨x, hx, _⟩ := h.hin e he
 exact (List.getElem?_eq_some_iff.1 hx).1
theorem PI.few (h : PI n el pl inn bl) : bl.length <= n := heaps_le (f := inn) (fun k hk => by
  obtain ⟨x, hx⟩ : ∃ x, bl[k]? = some x := ⟨_, List.getElem?_eq_getElem hk⟩
  obtain ⟨h1, h2, _⟩ := h.blk k x hx
  exact ⟨el x.1, (h.hel x.1 (by omega)).1, h.cov k x x.1 hx (Nat.le_refl _) h1⟩)
def swE (el : Nat -> Nat) (i k : Nat) : Nat -> Nat := upd (upd el i (el k)) k (el i)
def swP (el pl : Nat -> Nat) (i k : Nat) : Nat -> Nat := upd (upd pl (el k) i) (el i) k
theorem PI.mark (h : PI n el pl inn bl) {e : Nat} (he : e < n) {x : B3} (hx : bl[inn e]? = some x) (hm : x.1 + x.2.2 <= pl e) :
    PI n (swE el (pl e) (x.1 + x.2.2)) (swP el pl (pl e) (x.1 + x.2.2)) inn (bl.set (inn e) (x.1, x.2.1, x.2.2 + 1)) /\
    (∀ z, z < n -> (Mkd (swP el pl (pl e) (x.1 + x.2.2)) inn (bl.set (inn e) (x.1, x.2.1, x.2.2 + 1)) z ↔ Mkd pl inn bl z ∨ z = e)) := by
 obtain ⟨x', hx', hp1, hp2⟩ := h.hin e he
 rw [hx] at hx'
 obtain rfl := Option.some.inj hx'
 obtain ⟨hb1, hb2, hb3⟩ := h.blk _ _ hx
 obtain ⟨f, fr, hf⟩ : ∃ f fr, f = el fr /\ fr = x.1 + x.2.2 := ⟨_, _, rfl, rfl⟩
 obtain ⟨i, hi⟩ : ∃ i, i = pl e := ⟨_, rfl⟩
 rw [<- hi] at hm hp1 hp2 ⊢
 rw [<- hf.2] at hm ⊢
 have hfrn : fr < n := by omega
 have hin : i < n := by omega
 have hei : el i = e := by rw [hi]; exact (h.hpl e he).2
 have hef : el fr = f := hf.1.symm
 have hpf : pl f = fr := by rw [<- hef]; exact (h.hel fr hfrn).2
 have hfn : f < n := by rw [<- hef]; exact (h.hel fr hfrn).1
 have hinf : inn f = inn e := by rw [<- hef]; exact h.cov _ x fr hx (by omega) (by omega)
 have hfe : f = e ↔ fr = i := ⟨fun e1 => by rw [<- hpf, e1, hi], fun e1 => by rw [<- hef, e1, hei]⟩
 have hbl : inn e < bl.length := h.lt he
 have E : ∀ z, swE el i fr z = if z = fr then e else if z = i then f else el z := fun z => by
   unfold swE upd; rw [hei, hef]
 have Pz : ∀ z, swP el pl i fr z = if z = e then fr else if z = f then i else pl z := fun z => by
   unfold swP upd; rw [hei, hef]
 have hset : ∀ b, (bl.set (inn e) (x.1, x.2.1, x.2.2 + 1))[b]? = if b = inn e then some (x.1, x.2.1, x.2.2 + 1) else bl[b]? := fun b => by (
 rw [List.getElem?_set]
 by_cases e1 : inn e = b
 · subst e1; simp [hbl]
 · rw [if_neg e1, if_neg (fun e2 => e1 e2.symm)])
 -- where an element lies: in its block as before
 have hpl : ∀ z, z < n -> ∀ y : B3, bl[inn z]? = some y -> y.1 <= swP el pl i fr z /\ swP el pl i fr z < y.2.1 /\ swP el pl i fr z < n := fun z hz y hy => by (
 obtain ⟨y', hy', h1, h2⟩ := h.hin z hz
 rw [hy] at hy'
 obtain rfl := Option.some.inj hy'
 obtain ⟨_, h3, _⟩ := h.blk _ _ hy
 rw [Pz]
 by_cases e1 : z = e
 · rw [if_pos e1]
   subst e1
   rw [hx] at hy; obtain rfl := Option.some.inj hy
   exact ⟨by omega, by omega, hfrn⟩
 · (
 rw [if_neg e1]
 by_cases e2 : z = f
 · rw [if_pos e2]
   subst e2
   rw [hinf, hx] at hy; obtain rfl := Option.some.inj hy
   exact ⟨by omega, by omega, hin⟩
 · rw [if_neg e2]; exact ⟨h1, h2, by omega⟩))
 refine ⟨⟨fun z hz => ?_, fun z hz => ?_, fun b y hy => ?_, fun z hz => ?_, fun b y z hy h1 h2 => ?_⟩, fun z hz => ?_⟩
 · (
 rw [E]
 by_cases e1 : z = fr
 · rw [if_pos e1, Pz, if_pos rfl]; exact ⟨he, e1.symm⟩
 · (
 rw [if_neg e1]
 by_cases e2 : z = i
 · rw [if_pos e2, Pz]
   have : ¬ f = e := fun e3 => e1 (by rw [e2]; exact (hfe.1 e3).symm)
   rw [if_neg this, if_pos rfl]; exact ⟨hfn, e2.symm⟩
 · rw [if_neg e2, Pz]
   obtain ⟨a1, a2⟩ := h.hel z hz
   have n1 : ¬ el z = e := fun e3 => e2 (by rw [<- a2, e3, hi])
   have n2 : ¬ el z = f := fun e3 => e1 (by rw [<- a2, e3, hpf])
   rw [if_neg n1, if_neg n2]; exact ⟨a1, a2⟩))
 · (
 obtain ⟨y, hy, _⟩ := h.hin z hz
 refine ⟨(hpl z hz y hy).2.2, ?_⟩
 rw [E, Pz]
 by_cases e1 : z = e
 · rw [if_pos e1, if_pos rfl, e1]
 · (
 rw [if_neg e1]
 by_cases e2 : z = f
 · rw [if_pos e2]
   have : ¬ i = fr := fun e3 => e1 (by rw [e2]; exact hfe.2 e3.symm)
   rw [if_neg this, if_pos rfl, e2]
 · rw [if_neg e2]
   obtain ⟨a1, a2⟩ := h.hpl z hz
   have n1 : ¬ pl z = fr := fun e3 => e2 (by rw [<- a2, e3, hef])
   have n2 : ¬ pl z = i := fun e3 => e1 (by rw [<- a2, e3, hei])
   rw [if_neg n1, if_neg n2]; exact a2))
 · rw [hset] at hy
   split at hy
   · obtain rfl := Option.some.inj hy
     exact ⟨hb1, hb2, by show x.1 + (x.2.2 + 1) <= x.2.1; omega⟩
   · exact h.blk b y hy
 · (
 obtain ⟨y, hy, h1, h2⟩ := h.hin z hz
 obtain ⟨a1, a2, _⟩ := hpl z hz y hy
 rw [hset]
 by_cases e1 : inn z = inn e
 · rw [if_pos e1]
   rw [e1, hx] at hy; obtain rfl := Option.some.inj hy
   exact ⟨_, rfl, a1, a2⟩
 · rw [if_neg e1]; exact ⟨y, hy, a1, a2⟩)
 · (
 rw [hset] at hy
 have key : ∀ y : B3, bl[b]? = some y -> y.1 <= z -> z < y.2.1 -> inn (swE el i fr z) = b := fun y hy h1 h2 => by (
 have h0 := h.cov b y z hy h1 h2
 rw [E]
 by_cases e1 : z = fr
 · rw [if_pos e1]; rw [e1, hef, hinf] at h0; exact h0
 · rw [if_neg e1]
   by_cases e2 : z = i
   · rw [if_pos e2, hinf]; rw [e2, hei] at h0; exact h0
   · rw [if_neg e2]; exact h0)
 by_cases e1 : b = inn e
 · rw [if_pos e1] at hy
   obtain rfl := Option.some.inj hy
   exact key x (by rw [e1]; exact hx) h1 h2
 · rw [if_neg e1] at hy; exact key y hy h1 h2)
 · (
 unfold Mkd
 rw [hset, Pz]
 obtain ⟨y, hy, h1, h2⟩ := h.hin z hz
 by_cases e0 : inn z = inn e
 · (
 rw [if_pos e0]
 rw [e0, hx] at hy; obtain rfl := Option.some.inj hy
 rw [e0, hx]
 simp only [Option.some.injEq, exists_eq_left']
 by_cases e1 : z = e
 · simp only [if_pos e1]
   constructor
   · intro _; exact .inr e1
   · intro _; omega
 · (
 rw [if_neg e1]
 by_cases e2 : z = f
 · (
 rw [if_pos e2]
 have n1 : i ≠ fr := fun e3 => e1 (by rw [e2]; exact hfe.2 e3.symm)
 rw [e2, hpf]
 constructor
 · intro h3; omega
 · rintro (h3 | h3)
   · omega
   · exact absurd h3 (fun e3 => e1 (by rw [e2]; exact e3)))
 · (
 rw [if_neg e2]
 have n1 : pl z ≠ fr := fun e3 => e2 (by rw [<- (h.hpl z hz).2, e3, hef])
 constructor
 · intro h3; exact .inl (by omega)
 · rintro (h3 | h3)
   · omega
   · exact absurd h3 e1)))
 · (
 rw [if_neg e0]
 have n1 : z ≠ e := fun e3 => e0 (by rw [e3])
 have n2 : z ≠ f := fun e3 => e0 (by rw [e3, hinf])
 rw [if_neg n1, if_neg n2]
 constructor
 · intro h3; exact .inl h3
 · rintro (h3 | h3)
   · exact h3
   · exact absurd h3 n1))
theorem mkd_iff {e : Nat} {x : B3} (hx : bl[inn e]? = some x) : (Mkd pl inn bl e ↔ pl e < x.1 + x.2.2) := by
 unfold Mkd
 rw [hx]; simp
structure Spl (n : Nat) (pl inn inn' : Nat -> Nat) (bl bl' : List B3) (b : Nat) : Prop where
  far : ∀ e, e < n -> inn e ≠ b -> inn' e = inn e
  near : ∀ e, e < n -> inn e = b -> inn' e = b ∨ inn' e = bl.length
  same : ∀ e f, e < n -> f < n -> inn e = b -> inn f = b -> (inn' e = inn' f ↔ (Mkd pl inn bl e ↔ Mkd pl inn bl f))
  mks : ∀ e, e < n -> (Mkd pl inn' bl' e ↔ Mkd pl inn bl e /\ inn e ≠ b)
  more : bl.length <= bl'.length
  else_ : ∀ c, c ≠ b -> c < bl.length -> bl'[c]? = bl[c]?
theorem PI.split0 (h : PI n el pl inn bl) {b : Nat} {x : B3} (hx : bl[b]? = some x) (h0 : x.2.2 = 0 ∨ x.2.1 = x.1 + x.2.2) :
    PI n el pl inn (bl.set b (x.1, x.2.1, 0)) /\ Spl n pl inn inn bl (bl.set b (x.1, x.2.1, 0)) b := by
 have hbl := (List.getElem?_eq_some_iff.1 hx).1
 have hset : ∀ c, (bl.set b (x.1, x.2.1, 0))[c]? = if c = b then some (x.1, x.2.1, 0) else bl[c]? := fun c => by (
 rw [List.getElem?_set]
 by_cases e1 : b = c
 · subst e1; simp [hbl]
 · rw [if_neg e1, if_neg (fun e2 => e1 e2.symm)])
 obtain ⟨b1, b2, b3⟩ := h.blk b x hx
 have hmk : ∀ e, e < n -> inn e = b -> (Mkd pl inn bl e ↔ x.2.2 ≠ 0) := fun e he hb => by (
 rw [mkd_iff (x := x) (by rw [hb]; exact hx)]
 obtain ⟨y, hy, h1, h2⟩ := h.hin e he
 rw [hb, hx] at hy; obtain rfl := Option.some.inj hy
 omega)
 refine ⟨⟨h.hel, h.hpl, fun c y hy => ?_, fun e he => ?_, fun c y i hy h1 h2 => ?_⟩, ⟨fun _ _ _ => rfl, fun e _ he => .inl he, fun e f he hf h1 h2 => ?_, fun e he => ?_, by simp, fun c hc hl => by rw [hset, if_neg hc]⟩⟩
 · rw [hset] at hy
   split at hy
   · obtain rfl := Option.some.inj hy; exact ⟨b1, b2, by show x.1 + 0 <= x.2.1; omega⟩
   · exact h.blk c y hy
 · (
 obtain ⟨y, hy, h1, h2⟩ := h.hin e he
 rw [hset]
 by_cases e1 : inn e = b
 · rw [if_pos e1]
   rw [e1, hx] at hy; obtain rfl := Option.some.inj hy
   exact ⟨_, rfl, h1, h2⟩
 · rw [if_neg e1]; exact ⟨y, hy, h1, h2⟩)
 · (
 rw [hset] at hy
 by_cases e1 : c = b
 · rw [if_pos e1] at hy
   obtain rfl := Option.some.inj hy
   exact h.cov c x i (by rw [e1]; exact hx) h1 h2
 · rw [if_neg e1] at hy; exact h.cov c y i hy h1 h2)
 · rw [h1, h2, hmk e he h1, hmk f hf h2]
   simp
 · (
 unfold Mkd
 rw [hset]
 obtain ⟨y, hy, h1, h2⟩ := h.hin e he
 by_cases e1 : inn e = b
 · (
 rw [if_pos e1]
 rw [e1, hx] at hy; obtain rfl := Option.some.inj hy
 simp only [Option.some.injEq, exists_eq_left']
 constructor
 · intro h3; omega
 · rintro ⟨_, h3⟩; exact absurd e1 h3)
 · rw [if_neg e1]
   simp [e1])
def newB (x : B3) : B3 := if x.2.2 <= x.2.1 - x.1 - x.2.2 then (x.1, x.1 + x.2.2, 0) else (x.1 + x.2.2, x.2.1, 0)
def oldB (x : B3) : B3 := if x.2.2 <= x.2.1 - x.1 - x.2.2 then (x.1 + x.2.2, x.2.1, 0) else (x.1, x.1 + x.2.2, 0)
theorem PI.split1 (h : PI n el pl inn bl) {b : Nat} {x : B3} (hx : bl[b]? = some x) (h0 : x.2.2 ≠ 0) (h1 : x.1 + x.2.2 < x.2.1) {inn' : Nat -> Nat}
    (hi : ∀ e, e < n -> inn' e = if inn e = b /\ (newB x).1 <= pl e /\ pl e < (newB x).2.1 then bl.length else inn e) :
    PI n el pl inn' (bl.set b (oldB x) ++ [newB x]) /\ Spl n pl inn inn' bl (bl.set b (oldB x) ++ [newB x]) b := by
 have hbl := (List.getElem?_eq_some_iff.1 hx).1
 obtain ⟨b1, b2, b3⟩ := h.blk b x hx
 obtain ⟨O, hO⟩ : ∃ O, O = oldB x := ⟨_, rfl⟩
 obtain ⟨W, hW⟩ : ∃ W, W = newB x := ⟨_, rfl⟩
 rw [<- hW] at hi
 rw [<- hO, <- hW]
 have hset : ∀ c, (bl.set b O ++ [W])[c]? = if c = b then some O else if c = bl.length then some W else bl[c]? := fun c => by (
 by_cases e1 : c = b
 · rw [if_pos e1, List.getElem?_append_left (by simp; omega), e1]; simp [hbl]
 · (
 rw [if_neg e1]
 by_cases e2 : c = bl.length
 · rw [if_pos e2, e2, List.getElem?_append_right (by simp)]; simp
 · rw [if_neg e2]
   by_cases e3 : c < bl.length
   · rw [List.getElem?_append_left (by simpa using e3), List.getElem?_set, if_neg (fun e => e1 e.symm)]
   · rw [List.getElem?_eq_none (by simp; omega), List.getElem?_eq_none (by omega)]))
 have hcase : (O = (x.1 + x.2.2, x.2.1, 0) /\ W = (x.1, x.1 + x.2.2, 0)) ∨ (O = (x.1, x.1 + x.2.2, 0) /\ W = (x.1 + x.2.2, x.2.1, 0)) := by (
 rw [hO, hW]; unfold oldB newB
 split
 · exact .inl ⟨rfl, rfl⟩
 · exact .inr ⟨rfl, rfl⟩)
 have hOW : O.1 < O.2.1 /\ O.2.1 <= n /\ O.2.2 = 0 /\ W.1 < W.2.1 /\ W.2.1 <= n /\ W.2.2 = 0 /\ x.1 <= O.1 /\ x.1 <= W.1 /\ O.2.1 <= x.2.1 /\ W.2.1 <= x.2.1 := by
   rcases hcase with ⟨e1, e2⟩ | ⟨e1, e2⟩ <;> rw [e1, e2] <;> refine ⟨?_, ?_, ?_, ?_, ?_, ?_, ?_, ?_, ?_, ?_⟩ <;> dsimp only <;> omega
 have hpart : ∀ i, x.1 <= i -> i < x.2.1 -> ((W.1 <= i /\ i < W.2.1) ↔ ¬ (O.1 <= i /\ i < O.2.1)) := fun i h2 h3 => by
   rcases hcase with ⟨e1, e2⟩ | ⟨e1, e2⟩ <;> rw [e1, e2] <;> simp only <;> omega
 have hmark : ∀ i j, x.1 <= i -> i < x.2.1 -> x.1 <= j -> j < x.2.1 -> (((W.1 <= i /\ i < W.2.1) ↔ (W.1 <= j /\ j < W.2.1)) ↔ (i < x.1 + x.2.2 ↔ j < x.1 + x.2.2)) := fun i j h2 h3 h4 h5 => by
   rcases hcase with ⟨e1, e2⟩ | ⟨e1, e2⟩ <;> rw [e2] <;> simp only <;> omega
 have hat : ∀ e, e < n -> inn e = b -> x.1 <= pl e /\ pl e < x.2.1 := fun e he hb => by (
 obtain ⟨y, hy, h1, h2⟩ := h.hin e he
 rw [hb, hx] at hy; obtain rfl := Option.some.inj hy
 exact ⟨h1, h2⟩)
 have hcl : ∀ e, e < n -> inn e = b -> (Mkd pl inn bl e ↔ pl e < x.1 + x.2.2) := fun e he hb => mkd_iff (by rw [hb]; exact hx)
 obtain ⟨o1, o2, o3, w1, w2, w3, q1, q2, q3, q4⟩ := hOW
 refine ⟨⟨h.hel, h.hpl, fun c y hy => ?_, fun e he => ?_, fun c y i hy h2 h3 => ?_⟩, ⟨fun e he hne => ?_, fun e he hb => ?_, fun e f he hf h2 h3 => ?_, fun e he => ?_, by simp, fun c hc hl => ?_⟩⟩
 · (
 rw [hset] at hy
 split at hy
 · obtain rfl := Option.some.inj hy; exact ⟨o1, o2, by omega⟩
 · split at hy
   · obtain rfl := Option.some.inj hy; exact ⟨w1, w2, by omega⟩
   · exact h.blk c y hy)
 · (
 rw [hi e he]
 obtain ⟨y, hy, h2, h3⟩ := h.hin e he
 by_cases e1 : inn e = b
 · (
 have ha := hat e he e1
 by_cases e2 : W.1 <= pl e /\ pl e < W.2.1
 · rw [if_pos ⟨e1, e2⟩, hset, if_neg (by omega), if_pos rfl]
   exact ⟨W, rfl, e2.1, e2.2⟩
 · (
 rw [if_neg (fun h4 => e2 h4.2), hset, if_pos e1]
 have : O.1 <= pl e /\ pl e < O.2.1 := by (
 rcases Classical.em (O.1 <= pl e /\ pl e < O.2.1) with h4 | h4
 · exact h4
 · exact absurd ((hpart _ ha.1 ha.2).2 h4) e2)
 exact ⟨O, rfl, this.1, this.2⟩))
 · rw [if_neg (fun h4 => e1 h4.1), hset, if_neg e1]
   have hl := (List.getElem?_eq_some_iff.1 hy).1
   rw [if_neg (by omega)]
   exact ⟨y, hy, h2, h3⟩)
 · (
 rw [hset] at hy
 have hin : i < n := by (
 split at hy
 · obtain rfl := Option.some.inj hy; omega
 · split at hy
   · obtain rfl := Option.some.inj hy; omega
   · obtain ⟨_, h4, _⟩ := h.blk c y hy; omega)
 obtain ⟨hen, hpe⟩ := h.hel i hin
 rw [hi _ hen, hpe]
 by_cases e1 : c = b
 · rw [if_pos e1] at hy
   obtain rfl := Option.some.inj hy
   have hib := h.cov b x i hx (by omega) (by omega)
   rw [if_neg (fun h4 => (hpart i (by omega) (by omega)).1 h4.2 ⟨h2, h3⟩), hib, e1]
 · (
 rw [if_neg e1] at hy
 by_cases e2 : c = bl.length
 · rw [if_pos e2] at hy
   obtain rfl := Option.some.inj hy
   have hib := h.cov b x i hx (by omega) (by omega)
   rw [if_pos ⟨hib, h2, h3⟩, e2]
 · rw [if_neg e2] at hy
   have hib := h.cov c y i hy h2 h3
   rw [if_neg (fun h4 => e1 (by rw [<- hib]; exact h4.1)), hib]))
 · rw [hi e he, if_neg (fun h4 => hne h4.1)]
 · rw [hi e he]
   split
   · exact .inr rfl
   · exact .inl hb
 · (
 rw [hi e he, hi f hf, hcl e he h2, hcl f hf h3]
 have a1 := hat e he h2
 have a2 := hat f hf h3
 rw [<- hmark (pl e) (pl f) a1.1 a1.2 a2.1 a2.2]
 simp only [h2, h3, true_and]
 by_cases c1 : W.1 <= pl e /\ pl e < W.2.1 <;> by_cases c2 : W.1 <= pl f /\ pl f < W.2.1
 · rw [if_pos c1, if_pos c2]; simp [c1, c2]
 · rw [if_pos c1, if_neg c2]
   constructor
   · intro h4; omega
   · intro h4; exact absurd (h4.1 c1) c2
 · rw [if_neg c1, if_pos c2]
   constructor
   · intro h4; omega
   · intro h4; exact absurd (h4.2 c2) c1
 · rw [if_neg c1, if_neg c2]; simp [c1, c2])
 · (
 unfold Mkd
 rw [hset, hi e he]
 obtain ⟨y, hy, h2, h3⟩ := h.hin e he
 by_cases e1 : inn e = b
 · (
 have ha := hat e he e1
 simp only [e1, true_and, ne_eq, not_true, and_false, iff_false]
 by_cases e2 : W.1 <= pl e /\ pl e < W.2.1
 · rw [if_pos e2, if_neg (by omega), if_pos rfl]
   rintro ⟨z, hz, hlt⟩
   obtain rfl := Option.some.inj hz
   omega
 · (
 rw [if_neg e2, if_pos rfl]
 rintro ⟨z, hz, hlt⟩
 obtain rfl := Option.some.inj hz
 have := (hpart (pl e) ha.1 ha.2)
 have h5 : O.1 <= pl e /\ pl e < O.2.1 := by (
 rcases Classical.em (O.1 <= pl e /\ pl e < O.2.1) with h4 | h4
 · exact h4
 · exact absurd (this.2 h4) e2)
 omega))
 · have hl := (List.getElem?_eq_some_iff.1 hy).1
   have hnn : (if inn e = b /\ W.1 <= pl e /\ pl e < W.2.1 then bl.length else inn e) = inn e := if_neg (fun h4 => e1 h4.1)
   rw [hnn, if_neg e1, if_neg (by omega)]
   simp [e1])
 · rw [hset, if_neg hc, if_neg (by omega)]
theorem nodup_at {l : List Nat} (h : l.Nodup) {i j : Nat} {x : Nat} (hi : l[i]? = some x) (hj : l[j]? = some x) : i = j := by
 obtain ⟨hil, hi⟩ := List.getElem?_eq_some_iff.1 hi
 obtain ⟨hjl, hj⟩ := List.getElem?_eq_some_iff.1 hj
 have hp := List.pairwise_iff_getElem.1 h
 rcases Nat.lt_trichotomy i j with h1 | h1 | h1
 · exact absurd (hi.trans hj.symm) (hp i j hil hjl h1)
 · exact h1
 · exact absurd (hj.trans hi.symm) (hp j i hjl hil h1)
structure SI (n : Nat) (X : Nat -> Prop) (inn0 pl inn : Nat -> Nat) (bl : List B3) (ms : List Nat) (k : Nat) : Prop where
  same : ∀ p q, p < n -> q < n -> (inn p = inn q ↔ inn0 p = inn0 q /\ (inn0 p ∈ ms.take k -> (X p ↔ X q)))
  mks : ∀ p, p < n -> (Mkd pl inn bl p ↔ X p /\ inn0 p ∉ ms.take k)
  rest : ∀ j b, k <= j -> ms[j]? = some b -> b < bl.length /\ ∀ p, p < n -> (inn p = b ↔ inn0 p = b)
theorem SI.start {X : Nat -> Prop} {ms : List Nat} (hX : ∀ p, p < n -> (Mkd pl inn bl p ↔ X p)) (hms : ∀ b ∈ ms, b < bl.length) : SI n X inn pl inn bl ms 0 where
  same p q _ _ := by simp
  mks p hp := by simp [hX p hp]
  rest j b _ hb := ⟨hms b (List.mem_of_getElem? hb), fun _ _ => Iff.rfl⟩
theorem SI.step {X : Nat -> Prop} {inn0 inn' : Nat -> Nat} {bl' : List B3} {ms : List Nat} {k b : Nat} (h : SI n X inn0 pl inn bl ms k) (hP : PI n el pl inn bl) (hnd : ms.Nodup) (hb : ms[k]? = some b) (hs : Spl n pl inn inn' bl bl' b) : SI n X inn0 pl inn' bl' ms (k + 1) := by
 obtain ⟨hkl, hkb⟩ := List.getElem?_eq_some_iff.1 hb
 have htk : ∀ z, z ∈ ms.take (k + 1) ↔ z ∈ ms.take k ∨ z = b := fun z => by
   rw [List.take_succ_eq_append_getElem hkl, hkb]; simp
 have hnb : b ∉ ms.take k := fun hm => by (
 obtain ⟨j, hj, e⟩ := List.getElem_of_mem hm
 rw [List.getElem_take] at e
 rw [List.length_take] at hj
 have := nodup_at hnd (i := j) (j := k) (x := b) (by rw [List.getElem?_eq_getElem (by omega), e]) hb
 omega)
 have hrb := (h.rest k b (Nat.le_refl _) hb)
 have mk : ∀ p, p < n -> inn0 p = b -> (Mkd pl inn bl p ↔ X p) := fun p hp e => by
   rw [h.mks p hp, e]; simp [hnb]
 refine ⟨fun p q hp hq => ?_, fun p hp => ?_, fun j c hj hc => ?_⟩
 · (
 rw [htk]
 by_cases e1 : inn0 p = b
 · (
 have i1 := (hrb.2 p hp).2 e1
 by_cases e2 : inn0 q = b
 · have i2 := (hrb.2 q hq).2 e2
   rw [hs.same p q hp hq i1 i2, mk p hp e1, mk q hq e2]
   simp [e1, e2]
 · (
 have i2 : inn q ≠ b := fun e => e2 ((hrb.2 q hq).1 e)
 rw [hs.far q hq i2]
 constructor
 · intro e
   rcases hs.near p hp i1 with e3 | e3
   · exact absurd (e.symm.trans e3) i2
   · have := hP.lt hq; omega
 · rintro ⟨e, _⟩; exact absurd (e.symm.trans e1) e2))
 · (
 have i1 : inn p ≠ b := fun e => e1 ((hrb.2 p hp).1 e)
 rw [hs.far p hp i1]
 by_cases e2 : inn0 q = b
 · (
 have i2 := (hrb.2 q hq).2 e2
 constructor
 · intro e
   rcases hs.near q hq i2 with e3 | e3
   · exact absurd (e.trans e3) i1
   · have := hP.lt hp; omega
 · rintro ⟨e, _⟩; exact absurd (e.trans e2) e1)
 · have i2 : inn q ≠ b := fun e => e2 ((hrb.2 q hq).1 e)
   rw [hs.far q hq i2, h.same p q hp hq]
   simp [e1]))
 · rw [hs.mks p hp, h.mks p hp, htk, not_or]
   rw [show (inn p ≠ b) ↔ (inn0 p ≠ b) from not_congr (hrb.2 p hp)]
   exact and_assoc
 · (
 obtain ⟨h1, h2⟩ := h.rest j c (by omega) hc
 have hcb : c ≠ b := fun e => by
   have := nodup_at hnd (i := j) (j := k) (x := b) (by rw [hc, e]) hb
   omega
 refine ⟨Nat.lt_of_lt_of_le h1 hs.more, fun p hp => ?_⟩
 rw [<- h2 p hp]
 by_cases e1 : inn p = b
 · rcases hs.near p hp e1 with e2 | e2
   · rw [e1, e2]
   · constructor
     · intro e; omega
     · intro e; exact absurd (e.symm.trans e1) hcb
 · rw [hs.far p hp e1])
theorem SI.done {X : Nat -> Prop} {inn0 : Nat -> Nat} {ms : List Nat} (h : SI n X inn0 pl inn bl ms ms.length) (hX : ∀ p, p < n -> X p -> inn0 p ∈ ms) :
    (∀ p q, p < n -> q < n -> (inn p = inn q ↔ inn0 p = inn0 q /\ (X p ↔ X q))) /\ ∀ p, p < n -> ¬ Mkd pl inn bl p := by
 have h1 := h.same; have h2 := h.mks
 rw [List.take_length] at h1 h2
 refine ⟨fun p q hp hq => ?_, fun p hp hm => ?_⟩
 · (
 rw [h1 p q hp hq]
 constructor
 · rintro ⟨e, h3⟩
   refine ⟨e, ?_⟩
   by_cases hm : inn0 p ∈ ms
   · exact h3 hm
   · exact ⟨fun hx => absurd (hX p hp hx) hm, fun hx => absurd (by rw [e]; exact hX q hq hx) hm⟩
 · rintro ⟨e, h3⟩; exact ⟨e, fun _ => h3⟩)
 · obtain ⟨a1, a2⟩ := (h2 p hp).1 hm
   exact a2 (hX p hp a1)
def mkB (bl : List B3) (k : Nat) : List Nat := (List.range k).filter (fun b => decide (∃ x, bl[b]? = some x /\ 0 < x.2.2))
theorem mkB_nodup (bl : List B3) (k : Nat) : (mkB bl k).Nodup := List.Pairwise.filter _ List.nodup_range
theorem mkB_lt {k b : Nat} (h : b ∈ mkB bl k) : b < k := by unfold mkB at h; simp at h; exact h.1
theorem PI.mkB (h : PI n el pl inn bl) {p : Nat} (hp : p < n) (hm : Mkd pl inn bl p) : inn p ∈ mkB bl bl.length := by
 obtain ⟨x, hx, hlt⟩ := hm
 obtain ⟨y, hy, h1, h2⟩ := h.hin p hp
 rw [hx] at hy; obtain rfl := Option.some.inj hy
 unfold Pl.mkB
 simp only [List.mem_filter, List.mem_range, decide_eq_true_eq]
 exact ⟨h.lt hp, x, hx, by omega⟩
def elRow (el : Nat -> Nat) (x : B3) : List Nat := (List.range' x.1 (x.2.1 - x.1)).map el
theorem PI.rowE_mem (h : PI n el pl inn bl) {b : Nat} {x : B3} (hx : bl[b]? = some x) (e : Nat) : e ∈ elRow el x ↔ e ∈ memN n inn b := by
 obtain ⟨h1, h2, h3⟩ := h.blk b x hx
 rw [mem_memN]
 unfold elRow
 simp only [List.mem_map, List.mem_range'_1]
 constructor
 · rintro ⟨i, hi, rfl⟩
   exact ⟨(h.hel i (by omega)).1, h.cov b x i hx hi.1 (by omega)⟩
 · rintro ⟨he, hb⟩
   obtain ⟨y, hy, a1, a2⟩ := h.hin e he
   rw [hb, hx] at hy; obtain rfl := Option.some.inj hy
   exact ⟨pl e, ⟨a1, by omega⟩, (h.hpl e he).2⟩
theorem PI.rowE_nodup (h : PI n el pl inn bl) {b : Nat} {x : B3} (hx : bl[b]? = some x) : (elRow el x).Nodup := by
 obtain ⟨h1, h2, h3⟩ := h.blk b x hx
 unfold elRow
 unfold List.Nodup
 rw [List.pairwise_map]
 refine List.Pairwise.imp_of_mem (R := fun a b => a ≠ b) ?_ (List.nodup_range' (s := x.1) (n := x.2.1 - x.1))
 intro i j hi hj hne e
 rw [List.mem_range'_1] at hi hj
 exact hne (by rw [<- (h.hel i (by omega)).2, <- (h.hel j (by omega)).2, e])
theorem PI.rowE_len (h : PI n el pl inn bl) {b : Nat} {x : B3} (hx : bl[b]? = some x) : (memN n inn b).length = x.2.1 - x.1 := by
 have h1 := nodup_le (h.rowE_nodup hx) (fun e he => (h.rowE_mem hx e).1 he)
 have h2 := nodup_le (memN_nodup inn b) (fun e he => (h.rowE_mem hx e).2 he)
 have h3 : (elRow el x).length = x.2.1 - x.1 := by simp [elRow]
 omega
theorem sort_memN {L : List Int} {f : Nat -> Nat} {b : Nat} (hn : L.Nodup) (hm : ∀ x, x ∈ L ↔ ∃ e ∈ memN n f b, x = (e : Int)) : L.mergeSort (fun x y => decide (x <= y)) = (memN n f b).map Int.ofNat := by
 have hp := List.mergeSort_perm L (fun x y => decide (x <= y))
 have hs := List.pairwise_mergeSort (le := fun (x y : Int) => decide (x <= y)) (fun a b c h1 h2 => by simp at *; omega) (fun a b => by simp; omega) L
 have hnd := hp.nodup_iff.2 hn
 have h1 : (L.mergeSort (fun x y => decide (x <= y))).Pairwise (· < ·) := by (
 refine (hs.and hnd).imp (fun {a b} h => ?_)
 have := h.1; have := h.2
 simp at *; omega)
 have h2 : ((memN n f b).map Int.ofNat).Pairwise (· < ·) := by
   rw [List.pairwise_map]
   exact (memN_srt f b).imp (fun {a b} h => Int.ofNat_lt.2 h)
 refine List.Perm.eq_of_pairwise (le := (· < ·)) (fun a b _ _ h3 h4 => by omega) h1 h2 ?_
 rw [List.perm_ext_iff_of_nodup hnd (h2.imp (fun {a b} h => by omega))]
 intro a
 rw [hp.mem_iff, hm]
 simp only [List.mem_map]
 constructor
 · rintro ⟨e, he, rfl⟩; exact ⟨e, he, rfl⟩
 · rintro ⟨e, he, rfl⟩; exact ⟨e, he, rfl⟩
end
end Pl
end Go.Proofs.YtgikimbafakmcaaGreatDoor

/-
  Plain: the texts that weak's rounds tell states apart by: sets as bytes, label by label; rounds by them.
-/
import Derived.Test.YtdhloijdefnkpaaGreatDoorGBrQ
namespace Go.Proofs.YtdhloijdefnkpaaGreatDoor
namespace Pl

theorem flat_congrK {α β : Type} {f g : α → List β} : ∀ {L : List α}, (∀ x ∈ L, f x = g x) → L.flatMap f = L.flatMap g
  | [], _ => rfl
  | x :: L, h => by
    rw [List.flatMap_cons, List.flatMap_cons, h x (by simp), flat_congrK (fun y hy => h y (List.mem_cons_of_mem _ hy))]
/-! words as bytes -/
/-- A word's bytes. -/
def by8 (x : Nat) : List UInt8 := (List.range 8).map fun k => UInt8.ofNat (x >>> (8 * k))
theorem by8_len (x : Nat) : (by8 x).length = 8 := by simp [by8]
theorem by8_inj {x y : Nat} (hx : x < 18446744073709551616) (hy : y < 18446744073709551616) (h : by8 x = by8 y) : x = y := by
  have key : ∀ k, k < 8 → (x >>> (8 * k)) % 256 = (y >>> (8 * k)) % 256 := by
    intro k hk
    have h1 : (by8 x)[k]? = (by8 y)[k]? := by rw [h]
    unfold by8 at h1
    rw [List.getElem?_map, List.getElem?_map, List.getElem?_range hk] at h1
    simp only [Option.map_some, Option.some.injEq] at h1
    have h2 := congrArg UInt8.toNat h1
    simpa using h2
  refine Nat.eq_of_testBit_eq fun i => ?_
  by_cases hi : i < 64
  · have h1 : ((x >>> (8 * (i / 8))) % 256).testBit (i % 8) = ((y >>> (8 * (i / 8))) % 256).testBit (i % 8) := by rw [key (i / 8) (by omega)]
    rw [show (256 : Nat) = 2 ^ 8 from rfl, Nat.testBit_mod_two_pow, Nat.testBit_mod_two_pow, Nat.testBit_shiftRight, Nat.testBit_shiftRight] at h1
    have h2 : i % 8 < 8 := by omega
    have h3 : 8 * (i / 8) + i % 8 = i := by omega
    simpa [h2, h3] using h1
  · have h1 : (2 : Nat) ^ 64 ≤ 2 ^ i := Nat.pow_le_pow_right (by decide) (by omega)
    rw [Nat.testBit_lt_two_pow (Nat.lt_of_lt_of_le hx h1), Nat.testBit_lt_two_pow (Nat.lt_of_lt_of_le hy h1)]
/-- A set's bytes. -/
def bytesW (F : Nat → Bool) (W : Nat) : List UInt8 := (List.range W).flatMap fun j => by8 (wj F j)
theorem bytesW_succ (F : Nat → Bool) (W : Nat) : bytesW F (W + 1) = bytesW F W ++ by8 (wj F W) := by
  unfold bytesW; rw [List.range_succ, List.flatMap_append]; simp
theorem bytesW_len (F : Nat → Bool) : ∀ W, (bytesW F W).length = 8 * W
  | 0 => by simp [bytesW]
  | W + 1 => by rw [bytesW_succ, List.length_append, bytesW_len F W, by8_len]; omega
theorem bytesW_inj {F G : Nat → Bool} : ∀ {W : Nat}, bytesW F W = bytesW G W → ∀ x, x < 64 * W → F x = G x
  | 0, _, x, hx => by omega
  | W + 1, h, x, hx => by
    rw [bytesW_succ, bytesW_succ] at h
    obtain ⟨h1, h2⟩ := List.append_inj h (by rw [bytesW_len, bytesW_len])
    by_cases hlt : x < 64 * W
    · exact bytesW_inj h1 x hlt
    · have h3 := by8_inj (wj_lt F W) (wj_lt G W) h2
      have h4 : (wj F W).testBit (x - 64 * W) = (wj G W).testBit (x - 64 * W) := by rw [h3]
      rw [wj_bit, wj_bit] at h4
      have h5 : x - 64 * W < 64 := by omega
      have h6 : 64 * W + (x - 64 * W) = x := by omega
      simpa [h5, h6] using h4
theorem bytesW_ext {F G : Nat → Bool} {W : Nat} (h : ∀ x, x < 64 * W → F x = G x) : bytesW F W = bytesW G W := by
  unfold bytesW
  refine flat_congrK fun j hj => ?_
  have := List.mem_range.1 hj
  rw [wj_ext (fun k hk => h (64 * j + k) (by omega))]

/-! keys -/
/-- A label's share. -/
def keyS (W : Nat) (R : Nat → Option (Nat → Bool)) (l : Nat) : List UInt8 := match R l with | none => [] | some F => UInt8.ofNat l :: bytesW F W
/-- A state's text. -/
def wkey (W c lb : Nat) (R : Nat → Option (Nat → Bool)) : List UInt8 := bytesW (fun x => decide (x = c)) W ++ (List.range lb).flatMap (keyS W R)
def AgreeR (W : Nat) : Option (Nat → Bool) → Option (Nat → Bool) → Prop
  | none, none => True
  | some F, some G => ∀ x, x < 64 * W → F x = G x
  | _, _ => False
theorem keyS_head {W : Nat} {R : Nat → Option (Nat → Bool)} : ∀ {L : List Nat} {x : UInt8} {r : List UInt8}, L.flatMap (keyS W R) = x :: r → ∃ l ∈ L, x = UInt8.ofNat l
  | [], _, _, h => by simp at h
  | l :: L, x, r, h => by
    rw [List.flatMap_cons] at h
    cases e : R l with
    | none =>
      have h1 : keyS W R l = [] := by unfold keyS; rw [e]
      rw [h1] at h
      obtain ⟨l', hl, h2⟩ := keyS_head (L := L) h
      exact ⟨l', List.mem_cons_of_mem _ hl, h2⟩
    | some F =>
      have h1 : keyS W R l = UInt8.ofNat l :: bytesW F W := by unfold keyS; rw [e]
      rw [h1] at h
      simp only [List.cons_append, List.cons.injEq] at h
      exact ⟨l, by simp, h.1.symm⟩
theorem ofNat_inj8 {a b : Nat} (ha : a < 256) (hb : b < 256) (h : UInt8.ofNat a = UInt8.ofNat b) : a = b := by
  have := congrArg UInt8.toNat h
  simp at this; omega
theorem keyS_inj {W : Nat} {R R' : Nat → Option (Nat → Bool)} : ∀ {L : List Nat}, L.Nodup → (∀ l ∈ L, l < 256) → L.flatMap (keyS W R) = L.flatMap (keyS W R') → ∀ l ∈ L, AgreeR W (R l) (R' l)
  | [], _, _, _, l, hl => by simp at hl
  | a :: L, hn, hb, h, l, hl => by
    have hn2 := List.nodup_cons.1 hn
    have ha := hb a (by simp)
    have hno : ∀ (Q : Nat → Option (Nat → Bool)) (r : List UInt8), L.flatMap (keyS W Q) ≠ UInt8.ofNat a :: r := fun Q r e => by
      obtain ⟨b, hbL, h2⟩ := keyS_head e
      have := ofNat_inj8 ha (hb b (List.mem_cons_of_mem _ hbL)) h2
      exact hn2.1 (this ▸ hbL)
    rw [List.flatMap_cons, List.flatMap_cons] at h
    have key : AgreeR W (R a) (R' a) ∧ L.flatMap (keyS W R) = L.flatMap (keyS W R') := by
      cases e : R a with
      | none =>
        cases e' : R' a with
        | none =>
          have h1 : keyS W R a = [] := by unfold keyS; rw [e]
          have h2 : keyS W R' a = [] := by unfold keyS; rw [e']
          rw [h1, h2] at h
          exact ⟨trivial, by simpa using h⟩
        | some G =>
          have h1 : keyS W R a = [] := by unfold keyS; rw [e]
          have h2 : keyS W R' a = UInt8.ofNat a :: bytesW G W := by unfold keyS; rw [e']
          rw [h1, h2] at h
          exact absurd (by simpa using h) (hno R _)
      | some F =>
        cases e' : R' a with
        | none =>
          have h1 : keyS W R a = UInt8.ofNat a :: bytesW F W := by unfold keyS; rw [e]
          have h2 : keyS W R' a = [] := by unfold keyS; rw [e']
          rw [h1, h2] at h
          exact absurd (by simpa using h.symm) (hno R' _)
        | some G =>
          have h1 : keyS W R a = UInt8.ofNat a :: bytesW F W := by unfold keyS; rw [e]
          have h2 : keyS W R' a = UInt8.ofNat a :: bytesW G W := by unfold keyS; rw [e']
          rw [h1, h2] at h
          simp only [List.cons_append, List.cons.injEq, true_and] at h
          obtain ⟨h3, h4⟩ := List.append_inj h (by rw [bytesW_len, bytesW_len])
          exact ⟨bytesW_inj h3, h4⟩
    rcases List.mem_cons.1 hl with rfl | hl
    · exact key.1
    · exact keyS_inj hn2.2 (fun b hbL => hb b (List.mem_cons_of_mem _ hbL)) key.2 l hl
theorem wkey_inj {W c c' lb : Nat} {R R' : Nat → Option (Nat → Bool)} (hc : c < 64 * W) (hlb : lb ≤ 256) (h : wkey W c lb R = wkey W c' lb R') : c = c' ∧ ∀ l, l < lb → AgreeR W (R l) (R' l) := by
  unfold wkey at h
  obtain ⟨h1, h2⟩ := List.append_inj h (by rw [bytesW_len, bytesW_len])
  refine ⟨?_, fun l hl => keyS_inj List.nodup_range (fun x hx => by have := List.mem_range.1 hx; omega) h2 l (List.mem_range.2 hl)⟩
  have := bytesW_inj h1 c hc
  simpa using this
theorem wkey_ext {W c lb : Nat} {R R' : Nat → Option (Nat → Bool)} (h : ∀ l, l < lb → AgreeR W (R l) (R' l)) : wkey W c lb R = wkey W c lb R' := by
  unfold wkey
  congr 1
  refine flat_congrK fun l hl => ?_
  have h1 := h l (List.mem_range.1 hl)
  unfold keyS
  revert h1
  cases R l <;> cases R' l <;> intro h1
  · rfl
  · exact absurd h1 (by simp [AgreeR])
  · exact absurd h1 (by simp [AgreeR])
  · simp only; rw [bytesW_ext h1]

/-! what weak's ends tells -/
/-- What a state's weak steps by a label lead to, of what end tells (G). -/
def EndsOk (s : Lts) (G : Nat → Nat → Bool) (p : Nat) (l : Int) : Option (Nat → Bool) → Prop
  | none => ¬ ∃ m t, TR s p m ∧ one s m l t
  | some F => (∃ m t, TR s p m ∧ one s m l t) ∧ ∀ x, F x = true ↔ ∃ m t, TR s p m ∧ one s m l t ∧ G t x = true
/-- The classes that silent steps lead to. -/
def EndC (s : Lts) (C : Nat → Int) (G : Nat → Nat → Bool) : Prop := ∀ t x, G t x = true ↔ ∃ q, TR s t q ∧ C q = (x : Int)
theorem ends_mem {s : Lts} {n : Nat} (hr : s.Right) (hn : s.st = (n : Int)) {C : Nat → Int} (h0 : ∀ p, p < n → 0 ≤ C p) {G : Nat → Nat → Bool} (hG : ∀ t x, t < n → (G t x = true ↔ ∃ q, TR s t q ∧ C q = (x : Int))) {p : Nat} (hp : p < n) {l : Int} {o : Option (Nat → Bool)} (h : EndsOk s G p l o) (e : Int) :
    (∃ q, q < n ∧ wst s p l q ∧ C q = e) ↔ ∃ F x, o = some F ∧ e = (x : Nat) ∧ F x = true := by
  constructor
  · rintro ⟨q, hq, ⟨m, t, h1, h2, h3⟩, rfl⟩
    cases o with
    | none => exact absurd ⟨m, t, h1, h2⟩ h
    | some F =>
      obtain ⟨x, hx⟩ := Int.eq_ofNat_of_zero_le (h0 q hq)
      have ht : t < n := by
        rcases h2 with ⟨_, rfl⟩ | ⟨_, h2⟩
        · exact h1.ltW hr hn hp
        · exact (stp_lt hr hn h2).2.1
      exact ⟨F, x, rfl, hx, (h.2 x).2 ⟨m, t, h1, h2, (hG t x ht).2 ⟨q, h3, hx⟩⟩⟩
  · rintro ⟨F, x, rfl, rfl, hF⟩
    obtain ⟨m, t, h1, h2, h3⟩ := (h.2 x).1 hF
    have ht : t < n := by
      rcases h2 with ⟨_, rfl⟩ | ⟨_, h2⟩
      · exact h1.ltW hr hn hp
      · exact (stp_lt hr hn h2).2.1
    obtain ⟨q, h4, h5⟩ := (hG t x ht).1 h3
    exact ⟨q, h4.ltW hr hn ht, ⟨m, t, h1, h2, h4⟩, h5⟩
/-- The texts tell just who is together in the next round. -/
theorem weak_next {s : Lts} {n lb W : Nat} (hr : s.Right) (hn : s.st = (n : Int)) (hlb : s.lb = (lb : Int)) {C : Nat → Int} (hC : ∀ p, p < n → 0 ≤ C p ∧ C p < (64 * W : Nat)) {G : Nat → Nat → Bool} (hG : ∀ t x, t < n → (G t x = true ↔ ∃ q, TR s t q ∧ C q = (x : Int)))
    {R : Nat → Nat → Option (Nat → Bool)} (hR : ∀ p l, p < n → l < lb → EndsOk s G p (l : Int) (R p l)) {D : Nat → Int} (hD : ∀ p q, p < n → q < n → (D p = D q ↔ wkey W (C p).toNat lb (R p) = wkey W (C q).toNat lb (R q))) : NextS (wst s) n C D := by
  have hst := hr.st0
  have h0 : ∀ p, p < n → 0 ≤ C p := fun p hp => (hC p hp).1
  intro p q hp hq
  rw [hD p q hp hq]
  constructor
  · intro h
    obtain ⟨h1, h2⟩ := wkey_inj (by have := hC p hp; omega) (by omega) h
    refine ⟨by have := hC p hp; have := hC q hq; omega, ?_⟩
    have key : ∀ p q, p < n → q < n → (∀ l, l < lb → AgreeR W (R p l) (R q l)) → ∀ l e, (∃ t, t < n ∧ wst s p l t ∧ C t = e) → (∃ t, t < n ∧ wst s q l t ∧ C t = e) := by
      intro p q hp hq hA l e hx
      obtain ⟨t, ht, hw, rfl⟩ := hx
      have hl := (wst_lt hr hn hw hp).2
      obtain ⟨l, rfl⟩ := Int.eq_ofNat_of_zero_le hl.1
      have hl2 : l < lb := by omega
      obtain ⟨F, x, h3, h4, h5⟩ := (ends_mem hr hn h0 hG hp (hR p l hp hl2) (C t)).1 ⟨t, ht, hw, rfl⟩
      refine (ends_mem hr hn h0 hG hq (hR q l hq hl2) (C t)).2 ?_
      have h6 := hA l hl2
      rw [h3] at h6
      cases e : R q l with
      | none => rw [e] at h6; exact h6.elim
      | some F' =>
        rw [e] at h6
        exact ⟨F', x, rfl, h4, by rw [← h6 x (by have := hC t ht; omega)]; exact h5⟩
    intro l e
    refine ⟨key p q hp hq h2 l e, key q p hq hp (fun l hl => ?_) l e⟩
    have h3 := h2 l hl
    cases e1 : R p l <;> cases e2 : R q l <;> rw [e1, e2] at h3
    · exact trivial
    · exact h3.elim
    · exact h3.elim
    · exact fun x hx => (h3 x hx).symm
  · rintro ⟨h1, h2⟩
    rw [h1]
    refine wkey_ext fun l hl => ?_
    have ep := hR p l hp hl
    have eq := hR q l hq hl
    have mp := ends_mem hr hn h0 hG hp ep
    have mq := ends_mem hr hn h0 hG hq eq
    have some_of : ∀ {p : Nat} {o : Option (Nat → Bool)}, p < n → EndsOk s G p (l : Int) o → o ≠ none → ∃ e, ∃ t, t < n ∧ wst s p l t ∧ C t = e := by
      intro p o hp h hne
      cases o with
      | none => exact absurd rfl hne
      | some F =>
        obtain ⟨m, t, h3, h4⟩ := h.1
        have hw : wst s p l t := ⟨m, t, h3, h4, .refl⟩
        exact ⟨C t, t, (wst_lt hr hn hw hp).1, hw, rfl⟩
    cases e1 : R p l with
    | none =>
      cases e2 : R q l with
      | none => exact trivial
      | some F =>
        obtain ⟨e, he⟩ := some_of hq eq (by rw [e2]; simp)
        obtain ⟨F', x, h3, _⟩ := (mp e).1 ((h2 l e).2 he)
        rw [e1] at h3; cases h3
    | some F =>
      cases e2 : R q l with
      | none =>
        obtain ⟨e, he⟩ := some_of hp ep (by rw [e1]; simp)
        obtain ⟨F', x, h3, _⟩ := (mq e).1 ((h2 l e).1 he)
        rw [e2] at h3; cases h3
      | some F' =>
        intro x _
        have h3 := (mp x).symm.trans ((h2 l x).trans (mq x))
        rw [e1, e2] at h3
        have h4 : F x = true ↔ F' x = true := by
          constructor
          · intro h
            obtain ⟨F2, x2, e, ex, h5⟩ := h3.1 ⟨F, x, rfl, rfl, h⟩
            cases e
            obtain rfl : x = x2 := by omega
            exact h5
          · intro h
            obtain ⟨F2, x2, e, ex, h5⟩ := h3.2 ⟨F', x, rfl, rfl, h⟩
            cases e
            obtain rfl : x = x2 := by omega
            exact h5
        cases e3 : F x <;> cases e4 : F' x <;> simp [e3, e4] at h4 <;> rfl
/-- .. which are the rounds of strong bisimilarity of the saturated system. -/
theorem NextS.sat {s : Lts} {n lb : Nat} {K : Nat → Nat → Nat → Bool} (hr : s.Right) (hn : s.st = (n : Int)) (hlb : s.lb = (lb : Int)) (hK : KOk s n lb K) {C D : Nat → Int} (h : NextS (wst s) n C D) : NextS (stp (satS s n lb K)) n C D := by
  intro p q hp hq
  rw [h p q hp hq]
  have e : ∀ p, p < n → ∀ l c, (∃ t, t < n ∧ stp (satS s n lb K) p l t ∧ C t = c) ↔ (∃ t, t < n ∧ wst s p l t ∧ C t = c) := by
    intro p hp l c
    constructor
    · rintro ⟨t, ht, h1, h2⟩; exact ⟨t, ht, ((stp_sat hr hn hlb hK).1 h1).2, h2⟩
    · rintro ⟨t, ht, h1, h2⟩; exact ⟨t, ht, (stp_sat hr hn hlb hK).2 ⟨hp, h1⟩, h2⟩
  simp only [e p hp, e q hq]
/-! the numbers of texts -/
def txtW (n : Nat) (X : Nat → List UInt8) : List (List UInt8) := (List.range n).map X
theorem txtW_mem {n : Nat} {X : Nat → List UInt8} {p : Nat} (hp : p < n) : X p ∈ txtW n X := List.mem_map.2 ⟨p, List.mem_range.2 hp, rfl⟩
def cdW (n : Nat) (X : Nat → List UInt8) (p : Nat) : Int := codeT (txtW n X) (X p)
theorem cdW_eq {n : Nat} {X : Nat → List UInt8} {p q : Nat} (hp : p < n) (hq : q < n) : cdW n X p = cdW n X q ↔ X p = X q :=
  ⟨codeT_inj (txtW_mem hp) (txtW_mem hq), fun h => by unfold cdW; rw [h]⟩
end Pl
end Go.Proofs.YtdhloijdefnkpaaGreatDoor

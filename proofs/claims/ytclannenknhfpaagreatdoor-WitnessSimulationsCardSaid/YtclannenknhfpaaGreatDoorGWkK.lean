/-
  Plain: the texts that weak's rounds tell states apart by: sets as bytes, label by label; rounds by them.
  weak's sets in memory: rows of words.
  weak: rows of bits: newRow, put, join, ids, newRowOf.
  Plain: the blocks of tauscc.Order's list: each cycle's states stand one behind the other, behind all that silent steps lead to from them.
-/
import Derived.Test.YtclannenknhfpaaGreatDoorGKeyS
import Derived.Test.YtclannenknhfpaaGreatDoorGRwsB
import Derived.Laws.BitsAllLaws
import Derived.IntWalk
import Derived.BigRegion
import Derived.Deep.QuietTactic
import Derived.BigQuiet
import Derived.Outline
import Derived.Deep.Cut
import Derived.Test.YtclannenknhfpaaGreatDoorGTogether
import Derived.Test.YtclannenknhfpaaGreatDoorGBrC
namespace Go.Proofs.YtclannenknhfpaaGreatDoor
namespace Pl

theorem flat_congrK {α β : Type} {f g : α → List β} : ∀ {L : List α}, (∀ x ∈ L, f x = g x) → L.flatMap f = L.flatMap g
  | [], _ => rfl
  | x :: L, h => by
    rw [List.flatMap_cons, List.flatMap_cons, h x (by simp), flat_congrK (fun y hy => h y (List.mem_cons_of_mem _ hy))]
/-! words as bytes -/
/-- A word's bytes. -/
def by8 (x : Nat) : List UInt8 := (List.range 8).map fun k => UInt8.ofNat (x >>> (8 * k))
theorem by8_len (x : Nat) : (by8 x).length = 8 := by simp [by8]
theorem by8_inj {x y : Nat} (hx : x < 18446744073709551616) (hy : y < 18446744073709551616) (h : by8 x = by8 y) : x = y := by
  have key : ∀ k, k < 8 → (x >>> (8 * k)) % 256 = (y >>> (8 * k)) % 256 := by
    intro k hk
    have h1 : (by8 x)[k]? = (by8 y)[k]? := by rw [h]
    unfold by8 at h1
    rw [List.getElem?_map, List.getElem?_map, List.getElem?_range hk] at h1
    simp only [Option.map_some, Option.some.injEq] at h1
    have h2 := congrArg UInt8.toNat h1
    simpa using h2
  refine Nat.eq_of_testBit_eq fun i => ?_
  by_cases hi : i < 64
  · have h1 : ((x >>> (8 * (i / 8))) % 256).testBit (i % 8) = ((y >>> (8 * (i / 8))) % 256).testBit (i % 8) := by rw [key (i / 8) (by omega)]
    rw [show (256 : Nat) = 2 ^ 8 from rfl, Nat.testBit_mod_two_pow, Nat.testBit_mod_two_pow, Nat.testBit_shiftRight, Nat.testBit_shiftRight] at h1
    have h2 : i % 8 < 8 := by omega
    have h3 : 8 * (i / 8) + i % 8 = i := by omega
    simpa [h2, h3] using h1
  · have h1 : (2 : Nat) ^ 64 ≤ 2 ^ i := Nat.pow_le_pow_right (by decide) (by omega)
    rw [Nat.testBit_lt_two_pow (Nat.lt_of_lt_of_le hx h1), Nat.testBit_lt_two_pow (Nat.lt_of_lt_of_le hy h1)]
/-- A set's bytes. -/
def bytesW (F : Nat → Bool) (W : Nat) : List UInt8 := (List.range W).flatMap fun j => by8 (wj F j)
theorem bytesW_succ (F : Nat → Bool) (W : Nat) : bytesW F (W + 1) = bytesW F W ++ by8 (wj F W) := by
  unfold bytesW; rw [List.range_succ, List.flatMap_append]; simp
theorem bytesW_len (F : Nat → Bool) : ∀ W, (bytesW F W).length = 8 * W
  | 0 => by simp [bytesW]
  | W + 1 => by rw [bytesW_succ, List.length_append, bytesW_len F W, by8_len]; omega
theorem bytesW_inj {F G : Nat → Bool} : ∀ {W : Nat}, bytesW F W = bytesW G W → ∀ x, x < 64 * W → F x = G x
  | 0, _, x, hx => by omega
  | W + 1, h, x, hx => by
    rw [bytesW_succ, bytesW_succ] at h
    obtain ⟨h1, h2⟩ := List.append_inj h (by rw [bytesW_len, bytesW_len])
    by_cases hlt : x < 64 * W
    · exact bytesW_inj h1 x hlt
    · have h3 := by8_inj (wj_lt F W) (wj_lt G W) h2
      have h4 : (wj F W).testBit (x - 64 * W) = (wj G W).testBit (x - 64 * W) := by rw [h3]
      rw [wj_bit, wj_bit] at h4
      have h5 : x - 64 * W < 64 := by omega
      have h6 : 64 * W + (x - 64 * W) = x := by omega
      simpa [h5, h6] using h4
theorem bytesW_ext {F G : Nat → Bool} {W : Nat} (h : ∀ x, x < 64 * W → F x = G x) : bytesW F W = bytesW G W := by
  unfold bytesW
  refine flat_congrK fun j hj => ?_
  have := List.mem_range.1 hj
  rw [wj_ext (fun k hk => h (64 * j + k) (by omega))]

/-! keys -/
/-- A label's share. -/
def keyS (W : Nat) (R : Nat → Option (Nat → Bool)) (l : Nat) : List UInt8 := match R l with | none => [] | some F => UInt8.ofNat l :: bytesW F W
/-- A state's text. -/
def wkey (W c lb : Nat) (R : Nat → Option (Nat → Bool)) : List UInt8 := bytesW (fun x => decide (x = c)) W ++ (List.range lb).flatMap (keyS W R)
def AgreeR (W : Nat) : Option (Nat → Bool) → Option (Nat → Bool) → Prop
  | none, none => True
  | some F, some G => ∀ x, x < 64 * W → F x = G x
  | _, _ => False
theorem keyS_head {W : Nat} {R : Nat → Option (Nat → Bool)} : ∀ {L : List Nat} {x : UInt8} {r : List UInt8}, L.flatMap (keyS W R) = x :: r → ∃ l ∈ L, x = UInt8.ofNat l
  | [], _, _, h => by simp at h
  | l :: L, x, r, h => by
    rw [List.flatMap_cons] at h
    cases e : R l with
    | none =>
      have h1 : keyS W R l = [] := by unfold keyS; rw [e]
      rw [h1] at h
      obtain ⟨l', hl, h2⟩ := keyS_head (L := L) h
      exact ⟨l', List.mem_cons_of_mem _ hl, h2⟩
    | some F =>
      have h1 : keyS W R l = UInt8.ofNat l :: bytesW F W := by unfold keyS; rw [e]
      rw [h1] at h
      simp only [List.cons_append, List.cons.injEq] at h
      exact ⟨l, by simp, h.1.symm⟩
theorem ofNat_inj8 {a b : Nat} (ha : a < 256) (hb : b < 256) (h : UInt8.ofNat a = UInt8.ofNat b) : a = b := by
  have := congrArg UInt8.toNat h
  simp at this; omega
theorem keyS_inj {W : Nat} {R R' : Nat → Option (Nat → Bool)} : ∀ {L : List Nat}, L.Nodup → (∀ l ∈ L, l < 256) → L.flatMap (keyS W R) = L.flatMap (keyS W R') → ∀ l ∈ L, AgreeR W (R l) (R' l)
  | [], _, _, _, l, hl => by simp at hl
  | a :: L, hn, hb, h, l, hl => by
    have hn2 := List.nodup_cons.1 hn
    have ha := hb a (by simp)
    have hno : ∀ (Q : Nat → Option (Nat → Bool)) (r : List UInt8), L.flatMap (keyS W Q) ≠ UInt8.ofNat a :: r := fun Q r e => by
      obtain ⟨b, hbL, h2⟩ := keyS_head e
      have := ofNat_inj8 ha (hb b (List.mem_cons_of_mem _ hbL)) h2
      exact hn2.1 (this ▸ hbL)
    rw [List.flatMap_cons, List.flatMap_cons] at h
    have key : AgreeR W (R a) (R' a) ∧ L.flatMap (keyS W R) = L.flatMap (keyS W R') := by
      cases e : R a with
      | none =>
        cases e' : R' a with
        | none =>
          have h1 : keyS W R a = [] := by unfold keyS; rw [e]
          have h2 : keyS W R' a = [] := by unfold keyS; rw [e']
          rw [h1, h2] at h
          exact ⟨trivial, by simpa using h⟩
        | some G =>
          have h1 : keyS W R a = [] := by unfold keyS; rw [e]
          have h2 : keyS W R' a = UInt8.ofNat a :: bytesW G W := by unfold keyS; rw [e']
          rw [h1, h2] at h
          exact absurd (by simpa using h) (hno R _)
      | some F =>
        cases e' : R' a with
        | none =>
          have h1 : keyS W R a = UInt8.ofNat a :: bytesW F W := by unfold keyS; rw [e]
          have h2 : keyS W R' a = [] := by unfold keyS; rw [e']
          rw [h1, h2] at h
          exact absurd (by simpa using h.symm) (hno R' _)
        | some G =>
          have h1 : keyS W R a = UInt8.ofNat a :: bytesW F W := by unfold keyS; rw [e]
          have h2 : keyS W R' a = UInt8.ofNat a :: bytesW G W := by unfold keyS; rw [e']
          rw [h1, h2] at h
          simp only [List.cons_append, List.cons.injEq, true_and] at h
          obtain ⟨h3, h4⟩ := List.append_inj h (by rw [bytesW_len, bytesW_len])
          exact ⟨bytesW_inj h3, h4⟩
    rcases List.mem_cons.1 hl with rfl | hl
    · exact key.1
    · exact keyS_inj hn2.2 (fun b hbL => hb b (List.mem_cons_of_mem _ hbL)) key.2 l hl
theorem wkey_inj {W c c' lb : Nat} {R R' : Nat → Option (Nat → Bool)} (hc : c < 64 * W) (hlb : lb ≤ 256) (h : wkey W c lb R = wkey W c' lb R') : c = c' ∧ ∀ l, l < lb → AgreeR W (R l) (R' l) := by
  unfold wkey at h
  obtain ⟨h1, h2⟩ := List.append_inj h (by rw [bytesW_len, bytesW_len])
  refine ⟨?_, fun l hl => keyS_inj List.nodup_range (fun x hx => by have := List.mem_range.1 hx; omega) h2 l (List.mem_range.2 hl)⟩
  have := bytesW_inj h1 c hc
  simpa using this
theorem wkey_ext {W c lb : Nat} {R R' : Nat → Option (Nat → Bool)} (h : ∀ l, l < lb → AgreeR W (R l) (R' l)) : wkey W c lb R = wkey W c lb R' := by
  unfold wkey
  congr 1
  refine flat_congrK fun l hl => ?_
  have h1 := h l (List.mem_range.1 hl)
  unfold keyS
  revert h1
  cases R l <;> cases R' l <;> intro h1
  · rfl
  · exact absurd h1 (by simp [AgreeR])
  · exact absurd h1 (by simp [AgreeR])
  · simp only; rw [bytesW_ext h1]

/-! what weak's ends tells -/
/-- What a state's weak steps by a label lead to, of what end tells (G). -/
def EndsOk (s : Lts) (G : Nat → Nat → Bool) (p : Nat) (l : Int) : Option (Nat → Bool) → Prop
  | none => ¬ ∃ m t, TR s p m ∧ one s m l t
  | some F => (∃ m t, TR s p m ∧ one s m l t) ∧ ∀ x, F x = true ↔ ∃ m t, TR s p m ∧ one s m l t ∧ G t x = true
/-- The classes that silent steps lead to. -/
def EndC (s : Lts) (C : Nat → Int) (G : Nat → Nat → Bool) : Prop := ∀ t x, G t x = true ↔ ∃ q, TR s t q ∧ C q = (x : Int)
theorem ends_mem {s : Lts} {n : Nat} (hr : s.Right) (hn : s.st = (n : Int)) {C : Nat → Int} (h0 : ∀ p, p < n → 0 ≤ C p) {G : Nat → Nat → Bool} (hG : ∀ t x, t < n → (G t x = true ↔ ∃ q, TR s t q ∧ C q = (x : Int))) {p : Nat} (hp : p < n) {l : Int} {o : Option (Nat → Bool)} (h : EndsOk s G p l o) (e : Int) :
    (∃ q, q < n ∧ wst s p l q ∧ C q = e) ↔ ∃ F x, o = some F ∧ e = (x : Nat) ∧ F x = true := by
  constructor
  · rintro ⟨q, hq, ⟨m, t, h1, h2, h3⟩, rfl⟩
    cases o with
    | none => exact absurd ⟨m, t, h1, h2⟩ h
    | some F =>
      obtain ⟨x, hx⟩ := Int.eq_ofNat_of_zero_le (h0 q hq)
      have ht : t < n := by
        rcases h2 with ⟨_, rfl⟩ | ⟨_, h2⟩
        · exact h1.ltW hr hn hp
        · exact (stp_lt hr hn h2).2.1
      exact ⟨F, x, rfl, hx, (h.2 x).2 ⟨m, t, h1, h2, (hG t x ht).2 ⟨q, h3, hx⟩⟩⟩
  · rintro ⟨F, x, rfl, rfl, hF⟩
    obtain ⟨m, t, h1, h2, h3⟩ := (h.2 x).1 hF
    have ht : t < n := by
      rcases h2 with ⟨_, rfl⟩ | ⟨_, h2⟩
      · exact h1.ltW hr hn hp
      · exact (stp_lt hr hn h2).2.1
    obtain ⟨q, h4, h5⟩ := (hG t x ht).1 h3
    exact ⟨q, h4.ltW hr hn ht, ⟨m, t, h1, h2, h4⟩, h5⟩
/-- The texts tell just who is together in the next round. -/
theorem weak_next {s : Lts} {n lb W : Nat} (hr : s.Right) (hn : s.st = (n : Int)) (hlb : s.lb = (lb : Int)) {C : Nat → Int} (hC : ∀ p, p < n → 0 ≤ C p ∧ C p < (64 * W : Nat)) {G : Nat → Nat → Bool} (hG : ∀ t x, t < n → (G t x = true ↔ ∃ q, TR s t q ∧ C q = (x : Int)))
    {R : Nat → Nat → Option (Nat → Bool)} (hR : ∀ p l, p < n → l < lb → EndsOk s G p (l : Int) (R p l)) {D : Nat → Int} (hD : ∀ p q, p < n → q < n → (D p = D q ↔ wkey W (C p).toNat lb (R p) = wkey W (C q).toNat lb (R q))) : NextS (wst s) n C D := by
  have hst := hr.st0
  have h0 : ∀ p, p < n → 0 ≤ C p := fun p hp => (hC p hp).1
  intro p q hp hq
  rw [hD p q hp hq]
  constructor
  · intro h
    obtain ⟨h1, h2⟩ := wkey_inj (by have := hC p hp; omega) (by omega) h
    refine ⟨by have := hC p hp; have := hC q hq; omega, ?_⟩
    have key : ∀ p q, p < n → q < n → (∀ l, l < lb → AgreeR W (R p l) (R q l)) → ∀ l e, (∃ t, t < n ∧ wst s p l t ∧ C t = e) → (∃ t, t < n ∧ wst s q l t ∧ C t = e) := by
      intro p q hp hq hA l e hx
      obtain ⟨t, ht, hw, rfl⟩ := hx
      have hl := (wst_lt hr hn hw hp).2
      obtain ⟨l, rfl⟩ := Int.eq_ofNat_of_zero_le hl.1
      have hl2 : l < lb := by omega
      obtain ⟨F, x, h3, h4, h5⟩ := (ends_mem hr hn h0 hG hp (hR p l hp hl2) (C t)).1 ⟨t, ht, hw, rfl⟩
      refine (ends_mem hr hn h0 hG hq (hR q l hq hl2) (C t)).2 ?_
      have h6 := hA l hl2
      rw [h3] at h6
      cases e : R q l with
      | none => rw [e] at h6; exact h6.elim
      | some F' =>
        rw [e] at h6
        exact ⟨F', x, rfl, h4, by rw [← h6 x (by have := hC t ht; omega)]; exact h5⟩
    intro l e
    refine ⟨key p q hp hq h2 l e, key q p hq hp (fun l hl => ?_) l e⟩
    have h3 := h2 l hl
    cases e1 : R p l <;> cases e2 : R q l <;> rw [e1, e2] at h3
    · exact trivial
    · exact h3.elim
    · exact h3.elim
    · exact fun x hx => (h3 x hx).symm
  · rintro ⟨h1, h2⟩
    rw [h1]
    refine wkey_ext fun l hl => ?_
    have ep := hR p l hp hl
    have eq := hR q l hq hl
    have mp := ends_mem hr hn h0 hG hp ep
    have mq := ends_mem hr hn h0 hG hq eq
    have some_of : ∀ {p : Nat} {o : Option (Nat → Bool)}, p < n → EndsOk s G p (l : Int) o → o ≠ none → ∃ e, ∃ t, t < n ∧ wst s p l t ∧ C t = e := by
      intro p o hp h hne
      cases o with
      | none => exact absurd rfl hne
      | some F =>
        obtain ⟨m, t, h3, h4⟩ := h.1
        have hw : wst s p l t := ⟨m, t, h3, h4, .refl⟩
        exact ⟨C t, t, (wst_lt hr hn hw hp).1, hw, rfl⟩
    cases e1 : R p l with
    | none =>
      cases e2 : R q l with
      | none => exact trivial
      | some F =>
        obtain ⟨e, he⟩ := some_of hq eq (by rw [e2]; simp)
        obtain ⟨F', x, h3, _⟩ := (mp e).1 ((h2 l e).2 he)
        rw [e1] at h3; cases h3
    | some F =>
      cases e2 : R q l with
      | none =>
        obtain ⟨e, he⟩ := some_of hp ep (by rw [e1]; simp)
        obtain ⟨F', x, h3, _⟩ := (mq e).1 ((h2 l e).1 he)
        rw [e2] at h3; cases h3
      | some F' =>
        intro x _
        have h3 := (mp x).symm.trans ((h2 l x).trans (mq x))
        rw [e1, e2] at h3
        have h4 : F x = true ↔ F' x = true := by
          constructor
          · intro h
            obtain ⟨F2, x2, e, ex, h5⟩ := h3.1 ⟨F, x, rfl, rfl, h⟩
            cases e
            obtain rfl : x = x2 := by omega
            exact h5
          · intro h
            obtain ⟨F2, x2, e, ex, h5⟩ := h3.2 ⟨F', x, rfl, rfl, h⟩
            cases e
            obtain rfl : x = x2 := by omega
            exact h5
        cases e3 : F x <;> cases e4 : F' x <;> simp [e3, e4] at h4 <;> rfl
/-- .. which are the rounds of strong bisimilarity of the saturated system. -/
theorem NextS.sat {s : Lts} {n lb : Nat} {K : Nat → Nat → Nat → Bool} (hr : s.Right) (hn : s.st = (n : Int)) (hlb : s.lb = (lb : Int)) (hK : KOk s n lb K) {C D : Nat → Int} (h : NextS (wst s) n C D) : NextS (stp (satS s n lb K)) n C D := by
  intro p q hp hq
  rw [h p q hp hq]
  have e : ∀ p, p < n → ∀ l c, (∃ t, t < n ∧ stp (satS s n lb K) p l t ∧ C t = c) ↔ (∃ t, t < n ∧ wst s p l t ∧ C t = c) := by
    intro p hp l c
    constructor
    · rintro ⟨t, ht, h1, h2⟩; exact ⟨t, ht, ((stp_sat hr hn hlb hK).1 h1).2, h2⟩
    · rintro ⟨t, ht, h1, h2⟩; exact ⟨t, ht, (stp_sat hr hn hlb hK).2 ⟨hp, h1⟩, h2⟩
  simp only [e p hp, e q hq]
/-! the numbers of texts -/
def txtW (n : Nat) (X : Nat → List UInt8) : List (List UInt8) := (List.range n).map X
theorem txtW_mem {n : Nat} {X : Nat → List UInt8} {p : Nat} (hp : p < n) : X p ∈ txtW n X := List.mem_map.2 ⟨p, List.mem_range.2 hp, rfl⟩
def cdW (n : Nat) (X : Nat → List UInt8) (p : Nat) : Int := codeT (txtW n X) (X p)
theorem cdW_eq {n : Nat} {X : Nat → List UInt8} {p q : Nat} (hp : p < n) (hq : q < n) : cdW n X p = cdW n X q ↔ X p = X q :=
  ⟨codeT_inj (txtW_mem hp) (txtW_mem hq), fun h => by unfold cdW; rw [h]⟩
end Pl
end Go.Proofs.YtclannenknhfpaaGreatDoor

namespace Go.Proofs.YtclannenknhfpaaGreatDoor
open Go.RowKit Pl
namespace Pl
def orF (F G : Nat → Bool) (x : Nat) : Bool := F x || G x
theorem wj_or (F G : Nat → Bool) (j : Nat) : wj F j ||| wj G j = wj (orF F G) j := by
  refine Nat.eq_of_testBit_eq fun k => ?_
  rw [Nat.testBit_or, wj_bit, wj_bit, wj_bit]
  unfold orF
  cases decide (k < 64) <;> simp
theorem orF_none (F : Nat → Bool) : orF F (fun _ => false) = F := by funext x; simp [orF]
/-- Words for so many things. -/
def wds (n : Nat) : Nat := (n + 63) / 64
theorem wds_le (n : Nat) : n ≤ 64 * wds n := by unfold wds; omega
theorem wds_lt {n i : Nat} (h : i < n) : i / 64 < wds n := by unfold wds; omega
theorem wds_small {n : Nat} (h : n ≤ 1000) : wds n ≤ 16 := by unfold wds; omega
/-- A set of things below n. -/
theorem idsN_wds {F : Nat → Bool} {n : Nat} (h : ∀ x, F x = true → x < n) : idsN F (64 * wds n) = idsN F n := by
  have h1 := wds_le n
  obtain ⟨d, hd⟩ : ∃ d, 64 * wds n = n + d := ⟨64 * wds n - n, by omega⟩
  rw [hd]
  exact idsN_gap d (fun k _ => by
    cases e : F (n + k) with
    | false => rfl
    | true => exact absurd (h _ e) (by omega))
end Pl

/-- A set as a row of words of its own. -/
def BitRow (w : World) (b W : Nat) (F : Nat → Bool) : Prop := w.rowIs b 161 W (fun j => .int .u64 (wj F j : Nat))
section
variable {w w' : World} {b W : Nat} {F G : Nat → Bool}
theorem BitRow.lt (h : BitRow w b W F) : b < w.heap.size := World.rowIs.lt h
theorem BitRow.cell (h : BitRow w b W F) {j : Nat} (hj : j < W) : w.cell? ⟨b, j, none⟩ = some (.int .u64 (wj F j : Nat)) := World.rowIs.cell h hj
theorem BitRow.frozen (h : BitRow w b W F) (j : Nat) : w.frozen? ⟨b, j, none⟩ = false := World.rowIs.frozen h j
theorem BitRow.of_block (h : BitRow w b W F) (e : w'.heap[b]? = w.heap[b]?) : BitRow w' b W F := World.rowIs.of_block h e
theorem BitRow.below (h : BitRow w b W F) (hB : Below w.heap.size w w') : BitRow w' b W F := h.of_block (hB.block b h.lt)
theorem BitRow.congr (h : BitRow w b W F) (e : ∀ x, x < 64 * W → F x = G x) : BitRow w b W G :=
  World.rowIs.congr h (fun j hj => by rw [wj_ext (fun k hk => e (64 * j + k) (by omega))])
theorem BitRow.put (h : BitRow w b W F) (i : Nat) : BitRow (w.setCell ⟨b, i / 64, none⟩ (.int .u64 (wj (putF F i) (i / 64) : Nat))) b W (putF F i) :=
  (World.rowIs.set h (i / 64) _).congr (fun j _ => by
    by_cases e : j = i / 64
    · subst e; rw [if_pos rfl]
    · rw [if_neg e, wj_put_ne F e])
theorem BitRow.made (w : World) (W : Nat) : BitRow (w.alloc (.cells (madeCells #[.int .u64 0] W) 161)) w.heap.size W (fun _ => false) :=
  (World.rowIs_made w (.int .u64 0) W 161).congr (fun j _ => by rw [wj_none]; rfl)
end

/-- Only the row at b has turned. -/
structure Chg (w w' : World) (b : Nat) : Prop where
  oth : ∀ g, g ≠ b → g < w.heap.size → w'.heap[g]? = w.heap[g]?
  size : w'.heap.size = w.heap.size
  bel : ∀ B, B ≤ b → Below B w w'
section
variable {w w' w'' : World} {b : Nat}
theorem Chg.refl (w : World) (b : Nat) : Chg w w b := ⟨fun _ _ _ => rfl, rfl, fun _ _ => Below.refl _ _⟩
theorem Chg.trans (h : Chg w w' b) (h' : Chg w' w'' b) : Chg w w'' b :=
  ⟨fun g hg hl => (h'.oth g hg (by rw [h.size]; exact hl)).trans (h.oth g hg hl), h'.size.trans h.size, fun B hB => (h.bel B hB).trans (h'.bel B hB)⟩
theorem Chg.set (h : Chg w w' b) (j : Nat) (v : Value) : Chg w (w'.setCell ⟨b, j, none⟩ v) b :=
  ⟨fun g hg hl => (Below.heap_setCell _ _ _ _ hg).trans (h.oth g hg hl), by rw [size_setCell]; exact h.size, fun B hB => (h.bel B hB).setCell hB _⟩
theorem Chg.drewN (h : Chg w w' b) (m : Nat) : Chg w (w'.drewN m) b := ⟨h.oth, h.size, fun B hB => bdrew (h.bel B hB)⟩
theorem Chg.drew (h : Chg w w' b) : Chg w w'.drew b := ⟨h.oth, h.size, fun B hB => (h.bel B hB).drew⟩
end
end Go.Proofs.YtclannenknhfpaaGreatDoor

namespace Go.Proofs.YtclannenknhfpaaGreatDoor
open Go.RowKit Pl

/-- A row under way. -/
def joinG (F G : Nat → Bool) (k j : Nat) : Nat := if j < k then wj (orF F G) j else wj F j
def IdsW (w : World) (F : Nat → Bool) (W : Nat) (e : Ending) (w' : World) : Prop := ∃ v, e = .returned v ∧ w'.ownsRow w.heap.size 3 1 v (intsOf (idsN F (64 * W))).length ((intsOf (idsN F (64 * W))).flatMap encI) ∧ Below w.heap.size w w'
end Go.Proofs.YtclannenknhfpaaGreatDoor

namespace Go.Proofs.YtclannenknhfpaaGreatDoor
open Go.RowKit Pl

section
variable {s : Lts} {n : Nat} {f : Nat → Int} {D : List Nat}

/-- What Order's list is made of. -/
structure BlkO (s : Lts) (n : Nat) (f : Nat → Int) (D : List Nat) : Prop where
  right : s.Right
  st : s.st = (n : Int)
  cyc : Cyc s n f
  ord : OrdL (col s (fl n (clf n f))) (dist (fl n f)).length D
  all : ∀ k, k < (dist (fl n f)).length → k ∈ D
/-- A block. -/
def blkO (n : Nat) (f : Nat → Int) (k : Nat) : List Nat := clsM (fl n (clf n f)) n k
/-- The list. -/
def ordO (n : Nat) (f : Nat → Int) (D : List Nat) : List Nat := D.flatMap (blkO n f)
/-- Where a block begins. -/
def offO (n : Nat) (f : Nat → Int) (D : List Nat) (d : Nat) : Nat := (ordO n f (D.take d)).length

theorem mem_blkO {x k : Nat} : x ∈ blkO n f k ↔ x < n ∧ asF n f x = k := by
  unfold blkO
  rw [mem_clsM]
  constructor
  · rintro ⟨h1, h2⟩
    rw [fl_get _ h1, asF_eq h1] at h2
    simp only [Option.some.injEq] at h2
    exact ⟨h1, by omega⟩
  · rintro ⟨h1, rfl⟩
    exact ⟨h1, by rw [fl_get _ h1, asF_eq h1]⟩
theorem mem_ordO {x : Nat} {L : List Nat} : x ∈ ordO n f L ↔ x < n ∧ asF n f x ∈ L := by
  unfold ordO
  rw [List.mem_flatMap]
  constructor
  · rintro ⟨k, hk, hx⟩
    obtain ⟨h1, rfl⟩ := mem_blkO.1 hx
    exact ⟨h1, hk⟩
  · rintro ⟨h1, h2⟩
    exact ⟨_, h2, mem_blkO.2 ⟨h1, rfl⟩⟩
theorem ordO_K (n : Nat) (f : Nat → Int) (D : List Nat) : (D.flatMap fun k : Nat => memK (fl n (clf n f)) n (k : Int)) = (ordO n f D).map Int.ofNat := flat_N _ _ _
theorem BlkO.nodup (h : BlkO s n f D) : D.Nodup := h.ord.nodup
theorem BlkO.rng (h : BlkO s n f D) {k : Nat} (hk : k ∈ D) : k < (dist (fl n f)).length := h.ord.rng k hk
theorem BlkO.len (h : BlkO s n f D) : (ordO n f D).length = n := by
  have h1 := flat_le (fl n (clf n f)) n h.nodup
  have h2 := flat_all (C := fl n (clf n f)) (n := n) (M := (dist (fl n f)).length) (fun x hx => cls_in hx) h.all
  rw [ordO_K, List.length_map] at h1 h2
  omega
theorem BlkO.blk_pos (h : BlkO s n f D) {k : Nat} (hk : k ∈ D) : 0 < (blkO n f k).length := by
  have := memK_pos (cls_onto (h.rng hk))
  rw [memK_N, List.length_map] at this
  exact this
theorem offO_zero : offO n f D 0 = 0 := by simp [offO, ordO]
theorem take_succ {d k : Nat} (hd : D[d]? = some k) : D.take (d + 1) = D.take d ++ [k] := by rw [List.take_add_one, hd]; rfl
theorem ordO_succ {d k : Nat} (hd : D[d]? = some k) : ordO n f (D.take (d + 1)) = ordO n f (D.take d) ++ blkO n f k := by
  rw [take_succ hd]; simp [ordO]
theorem offO_succ {d k : Nat} (hd : D[d]? = some k) : offO n f D (d + 1) = offO n f D d + (blkO n f k).length := by
  unfold offO; rw [ordO_succ hd, List.length_append]
theorem ordO_split {d k : Nat} (hd : D[d]? = some k) : ordO n f D = ordO n f (D.take d) ++ (blkO n f k ++ ordO n f (D.drop (d + 1))) := by
  have h2 : ordO n f D = ordO n f (D.take (d + 1)) ++ ordO n f (D.drop (d + 1)) := by
    unfold ordO
    rw [← List.flatMap_append, List.take_append_drop]
  rw [h2, ordO_succ hd, List.append_assoc]
theorem ordO_at {d k j : Nat} (hd : D[d]? = some k) (hj : j < (blkO n f k).length) : (ordO n f D)[offO n f D d + j]? = (blkO n f k)[j]? := by
  rw [ordO_split hd]
  unfold offO
  rw [List.getElem?_append_right (by omega), Nat.add_sub_cancel_left, List.getElem?_append_left hj]
theorem BlkO.more (h : BlkO s n f D) {d : Nat} (hd : offO n f D d < n) : ∃ k, D[d]? = some k := by
  by_cases hl : d < D.length
  · exact ⟨D[d], List.getElem?_eq_getElem hl⟩
  · exfalso
    have := h.len
    unfold offO at hd
    rw [List.take_of_length_le (by omega)] at hd
    omega
theorem BlkO.off_le (h : BlkO s n f D) {d k : Nat} (hd : D[d]? = some k) : offO n f D d + (blkO n f k).length ≤ n := by
  have h1 := h.len
  rw [ordO_split hd, List.length_append, List.length_append] at h1
  unfold offO
  omega
theorem BlkO.next (h : BlkO s n f D) {d k y : Nat} (hd : D[d]? = some k) (hy : (ordO n f D)[offO n f D d + (blkO n f k).length]? = some y) : y < n ∧ asF n f y ≠ k := by
  rw [ordO_split hd] at hy
  unfold offO at hy
  rw [List.getElem?_append_right (by omega), Nat.add_sub_cancel_left, List.getElem?_append_right (by omega), Nat.sub_self] at hy
  have h1 := mem_ordO.1 (List.mem_of_getElem? hy)
  refine ⟨h1.1, fun e => ?_⟩
  rw [e] at h1
  have h2 := h.nodup
  rw [show D = D.take (d + 1) ++ D.drop (d + 1) from (List.take_append_drop _ _).symm, List.nodup_append] at h2
  exact h2.2.2 k (by rw [take_succ hd]; simp) k h1.2 rfl
theorem BlkO.ahead (h : BlkO s n f D) {d k p t : Nat} (hd : D[d]? = some k) (hp : p < n) (hpk : asF n f p = k) (hs : tau s p t) (hne : asF n f t ≠ k) : t ∈ ordO n f (D.take d) := by
  have hl := stp_lt h.right h.st hs
  refine mem_ordO.2 ⟨hl.2.1, ?_⟩
  have h1 : tau (col s (fl n (clf n f))) k (asF n f t) := (stp_col h.right h.st).2 ⟨p, t, hp, hl.2.1, hs, hpk, rfl, fun e => hne e.2.symm⟩
  exact h.ord.ahead (col_right h.right h.st) (col_srt _ _) d k _ hd h1
theorem blkO_len_le (k : Nat) : (blkO n f k).length ≤ n := by
  have := memK_len (fl n (clf n f)) n (k : Int)
  rw [memK_N, List.length_map] at this
  exact this
theorem asF_clf {x y : Nat} (hx : x < n) (hy : y < n) : clf n f x = clf n f y ↔ asF n f x = asF n f y := by
  rw [asF_eq hx, asF_eq hy]; omega
/-- One block alone: all of them come from one another. -/
theorem BlkO.same (h : BlkO s n f D) {x y : Nat} (hx : x < n) (hy : y < n) (e : asF n f x = asF n f y) : TR s x y ∧ TR s y x := (asF_same h.cyc hx hy).1 e
/-- Cycles and Order speak of one numbering. -/
theorem BlkO.of_ord {g : Nat → Int} (hr : s.Right) (hn : s.st = (n : Int)) (hf : Cyc s n f) (hg : Cyc s n g) (hD : OrdL (col s (fl n (clf n g))) (dist (fl n (clf n g))).length D) (hall : ∀ k, k < (dist (fl n (clf n g))).length → k ∈ D) :
    BlkO s n f D ∧ fl n (clf n g) = fl n (clf n f) := by
  have e : fl n (clf n g) = fl n (clf n f) := by rw [← canon_fl, ← canon_fl]; exact hg.unique hf
  rw [e, dist_clf_len] at hD hall
  exact ⟨⟨hr, hn, hf, hD, hall⟩, e⟩
end
theorem stp_normO {s : Lts} {p t : Nat} {l : Int} : stp s.norm p l t ↔ stp s p l t := by
  unfold stp Lts.norm
  simp only
  rw [mem_nf stoE]
end Go.Proofs.YtclannenknhfpaaGreatDoor

/-
  Plain: a state and its state of the branching quotient are together in the union; all states of a quotient are reachable; the quotient of a quotient is itself.
  Plain: a quotient is its own quotient, of either kind.
  quotient.Of of a right system without states.
-/
import Derived.Test.YtmlmjhmdjieigaaGreatDoorGQuoN
import Derived.Test.YtmlmjhmdjieigaaGreatDoorGPl6
import Derived.Test.YtmlmjhmdjieigaaGreatDoorQuoA
namespace Go.Proofs.YtmlmjhmdjieigaaGreatDoor
open Go.RowKit Pl

section
variable {s : Lts} {n : Nat} {C : Nat → Int}
theorem alike_br (hr : s.Right) (hn : s.st = (n : Int)) (hn0 : 0 < n) (h : BrBig s n C) {m : Nat} (hm : (quoSI true s (fl n C)).st = (m : Int)) (hQ : (quoSI true s (fl n C)).Right) {K : Nat → Int} (hK : BrBig (uniS s (quoSI true s (fl n C))) (n + m) K) {p i : Nat} (hp : p < n) (hi : toI (quoD s (fl n C)) (C p) = (i : Int)) (him : i < m) : K p = K (n + i) := by
  -- who says what: a state of s its class, a state of the quotient its number's
  obtain ⟨κ, hκ⟩ : ∃ κ : Nat → Int → Prop, κ = fun x c => (x < n ∧ toI (quoD s (fl n C)) (C x) = c ∧ 0 ≤ c) ∨ (n ≤ x ∧ ((x - n : Nat) : Int) = c) := ⟨_, rfl⟩
  have ul : ∀ {p x : Nat} {l : Int}, p < n → (stp (uniS s (quoSI true s (fl n C))) p l x ↔ stp s p l x) := fun hp => uni_left hQ hn hp
  have ur : ∀ {q x : Nat} {l : Int}, stp (uniS s (quoSI true s (fl n C))) (n + q) l x ↔ ∃ y : Nat, x = n + y ∧ stp (quoSI true s (fl n C)) q l y := uni_right hr hQ hn
  have inj : ∀ {a b : Nat}, a < n → b < n → 0 ≤ toI (quoD s (fl n C)) (C a) → toI (quoD s (fl n C)) (C a) = toI (quoD s (fl n C)) (C b) → C a = C b := by
    intro a b ha hb h0 e
    obtain ⟨i, hi⟩ := Int.eq_ofNat_of_zero_le h0
    obtain ⟨h1, _⟩ := quo_rep hr hn hn0 hi
    obtain ⟨h2, _⟩ := quo_rep hr hn hn0 (e.symm.trans hi)
    exact toI_inj h1 h2 e
  have emb : ∀ {X : Nat → Prop} {a b : Nat}, Via s (fun x => x < n ∧ X x) a b → Via (uniS s (quoSI true s (fl n C))) (fun x => x < n ∧ X x) a b := by
    intro X a b hv
    induction hv with
    | refl h => exact .refl h
    | tail h1 h2 h3 ih => exact .tail ih ((ul h1.last.1).2 h2) h3
  have same : ∀ {a b : Nat}, a < n → b < n → (C a = C b ∨ ∃ c, κ a c ∧ κ b c) → C a = C b := by
    intro a b ha hb hab
    rcases hab with e | ⟨c, h1, h2⟩
    · exact e
    · rw [hκ] at h1 h2
      rcases h1 with ⟨_, h1, h0⟩ | ⟨h1, _⟩
      · rcases h2 with ⟨_, h2, _⟩ | ⟨h2, _⟩
        · exact inj ha hb (by omega) (by omega)
        · omega
      · omega
  have fw : ∀ a b, a < n + m → b < n + m → ((a < n ∧ b < n ∧ C a = C b) ∨ ∃ c, κ a c ∧ κ b c) → ∀ l a', a' < n + m → stp (uniS s (quoSI true s (fl n C))) a l a' →
      (l = 0 ∧ ((a' < n ∧ b < n ∧ C a' = C b) ∨ ∃ c, κ a' c ∧ κ b c)) ∨ ∃ q0 q', Via (uniS s (quoSI true s (fl n C))) (fun x => x < n + m ∧ ((a < n ∧ x < n ∧ C a = C x) ∨ ∃ c, κ a c ∧ κ x c)) b q0 ∧ q' < n + m ∧ stp (uniS s (quoSI true s (fl n C))) q0 l q' ∧ ((a' < n ∧ q' < n ∧ C a' = C q') ∨ ∃ c, κ a' c ∧ κ q' c) := by
    intro a b ha hb hab l a' ha' hs
    by_cases han : a < n
    · have hs1 := (ul han).1 hs
      have ha1 := (stp_lt hr hn hs1).2.1
      by_cases hk : l = 0 ∧ C a' = C a
      · refine .inl ⟨hk.1, ?_⟩
        rcases hab with ⟨_, h2, h3⟩ | ⟨c, h1, h2⟩
        · exact .inl ⟨ha1, h2, by rw [hk.2, h3]⟩
        · refine .inr ⟨c, ?_, h2⟩
          rw [hκ] at h1 ⊢
          rcases h1 with ⟨_, h1, h0⟩ | ⟨h1, _⟩
          · exact .inl ⟨ha1, by rw [hk.2]; exact h1, h0⟩
          · omega
      · by_cases hbn : b < n
        · have hC : C a = C b := same han hbn (hab.imp (fun h => h.2.2) id)
          obtain ⟨q0, t, h1, h2, h3, _⟩ := (h.still a b han hbn hC _ _ (.here hs1 hk)).way
          have h4 := emb (h1.lt hr hn hbn).1
          have h5 := stp_lt hr hn h2
          exact .inr ⟨q0, t, h4.mono (fun x hx => ⟨by omega, .inl ⟨han, hx.1, by rw [hx.2]; exact hC⟩⟩), by omega, (ul h5.1).2 h2, .inl ⟨ha1, h5.2.1, h3.symm⟩⟩
        · obtain ⟨i, rfl⟩ : ∃ i, b = n + i := ⟨b - n, by omega⟩
          have hai : toI (quoD s (fl n C)) (C a) = (i : Int) := by
            rcases hab with h1 | ⟨c, h1, h2⟩
            · omega
            · rw [hκ] at h1 h2
              rcases h1 with ⟨_, h1, _⟩ | ⟨h1, _⟩
              · rcases h2 with ⟨h2, _⟩ | ⟨_, h2⟩
                · omega
                · rw [h1, ← h2]; congr 1; omega
              · omega
          obtain ⟨j, h1, h2, h3⟩ := quo_down hr hn hn0 h.still (inert := true) han hai hs1 hk
          have hjm : j < m := by
            have h4 : ((quoD s (fl n C)).length : Int) = (m : Int) := hm
            omega
          refine .inr ⟨n + i, n + j, .refl ⟨hb, hab⟩, by omega, ur.2 ⟨j, rfl, h3⟩, .inr ⟨(j : Int), ?_, ?_⟩⟩
          · rw [hκ]; exact .inl ⟨ha1, h1, by omega⟩
          · rw [hκ]; exact .inr ⟨by omega, by congr 1; omega⟩
    · obtain ⟨i, rfl⟩ : ∃ i, a = n + i := ⟨a - n, by omega⟩
      obtain ⟨j, rfl, hs1⟩ := ur.1 hs
      have hab2 : ∃ c, κ (n + i) c ∧ κ b c := by
        rcases hab with h1 | h1
        · omega
        · exact h1
      obtain ⟨c, h1, h2⟩ := hab2
      rw [hκ] at h1 h2
      have hc : c = (i : Int) := by
        rcases h1 with ⟨h1, _⟩ | ⟨_, h1⟩
        · omega
        · rw [← h1]; congr 1; omega
      subst hc
      by_cases hbn : b < n
      · have hbi : toI (quoD s (fl n C)) (C b) = (i : Int) := by
          rcases h2 with ⟨_, h2, _⟩ | ⟨h2, _⟩
          · exact h2
          · omega
        obtain ⟨q0, t, h3, h4, h5⟩ := quo_up hr hn hn0 h.still hbn hbi hs1
        have h6 := emb (h3.lt hr hn hbn).1
        have h7 := stp_lt hr hn h4
        refine .inr ⟨q0, t, h6.mono (fun x hx => ⟨by omega, .inr ⟨(i : Int), ?_, ?_⟩⟩), by omega, (ul h7.1).2 h4, .inr ⟨(j : Int), ?_, ?_⟩⟩
        · rw [hκ]; exact .inr ⟨by omega, by congr 1; omega⟩
        · rw [hκ]; exact .inl ⟨hx.1, by rw [hx.2]; exact hbi, by omega⟩
        · rw [hκ]; exact .inr ⟨by omega, by congr 1; omega⟩
        · rw [hκ]; exact .inl ⟨h7.2.1, h5, by omega⟩
      · have hbi : b = n + i := by
          rcases h2 with ⟨h2, _⟩ | ⟨h2, h3⟩
          · omega
          · omega
        subst hbi
        exact .inr ⟨n + i, n + j, .refl ⟨hb, hab⟩, ha', hs, .inr ⟨(j : Int), by rw [hκ]; exact .inr ⟨by omega, by congr 1; omega⟩, by rw [hκ]; exact .inr ⟨by omega, by congr 1; omega⟩⟩⟩
  have sy : ∀ {a b : Nat}, ((a < n ∧ b < n ∧ C a = C b) ∨ ∃ c, κ a c ∧ κ b c) → ((b < n ∧ a < n ∧ C b = C a) ∨ ∃ c, κ b c ∧ κ a c) := fun h => h.imp (fun h => ⟨h.2.1, h.1, h.2.2.symm⟩) (fun ⟨c, h1, h2⟩ => ⟨c, h2, h1⟩)
  refine hK.all (fun a b => (a < n ∧ b < n ∧ C a = C b) ∨ ∃ c, κ a c ∧ κ b c) ⟨fw, fun a b ha hb hab l b' hb' hs => ?_⟩ p (n + i) (by omega) (by omega) (.inr ⟨(i : Int), by rw [hκ]; exact .inl ⟨hp, hi, by omega⟩, by rw [hκ]; exact .inr ⟨by omega, by congr 1; omega⟩⟩)
  rcases fw b a hb ha (sy hab) l b' hb' hs with ⟨h1, h2⟩ | ⟨q0, t, h1, h2, h3, h4⟩
  · exact .inl ⟨h1, sy h2⟩
  · exact .inr ⟨q0, t, h1.mono (fun x hx => ⟨hx.1, sy hx.2⟩), h2, h3, sy h4⟩

/-! all states are reachable -/
theorem quo_rch (hr : s.Right) (hn : s.st = (n : Int)) (hn0 : 0 < n) {inert : Bool} {x : Int} (h : Rch s x) : Rch (quoSI inert s (fl n C)) (toI (quoD s (fl n C)) (atL (fl n C) x)) := by
  refine (h (fun x => Rch s x ∧ Rch (quoSI inert s (fl n C)) (toI (quoD s (fl n C)) (atL (fl n C) x))) ⟨Rch.start s, Rch.start (quoSI inert s (fl n C))⟩ (fun x l y ⟨hx, ih⟩ hs => ⟨hx.step hs, ?_⟩)).2
  · 
    have hxr := (mem_reachL hr (by omega)).2 hx
    obtain ⟨p, rfl, hp, _⟩ := quo_rng hr hn hn0 hxr
    obtain ⟨t, rfl, ht, _⟩ := quo_rng hr hn hn0 (quo_step hr hn hn0 hxr hs)
    have k1 := toI_in (quo_in (L := fl n C) hxr)
    have k2 := toI_in (quo_in (L := fl n C) (quo_step hr hn hn0 hxr hs))
    rw [atLF hp] at k1 ih
    rw [atLF ht] at k2 ⊢
    by_cases hk : inert = true ∧ l = 0 ∧ (quoD s (fl n C)).idxOf (C p) = (quoD s (fl n C)).idxOf (C t)
    · rw [k2.1, ← hk.2.2, ← k1.1]; exact ih
    · have h5 : stp (quoSI inert s (fl n C)) ((quoD s (fl n C)).idxOf (C p)) l ((quoD s (fl n C)).idxOf (C t)) := (stp_quo hr hn hn0).2 ⟨p, t, hp, ht, hxr, hs, k1.1, k2.1, hk⟩
      rw [k1.1] at ih
      rw [k2.1]
      exact ih.step h5
theorem quo_reach (hr : s.Right) (hn : s.st = (n : Int)) (hn0 : 0 < n) (inert : Bool) : reachL (quoSI inert s (fl n C)) = (List.range (quoD s (fl n C)).length).map Int.ofNat := by
  unfold reachL
  show List.filter _ ((List.range ((((quoD s (fl n C)).length : Nat) : Int).toNat)).map Int.ofNat) = _
  rw [Int.toNat_natCast, List.filter_eq_self]
  intro x hx
  obtain ⟨i, hi, rfl⟩ := List.mem_map.1 hx
  rw [List.mem_range] at hi
  have hm : (quoD s (fl n C))[i] ∈ quoD s (fl n C) := List.getElem_mem hi
  obtain ⟨y, hy, e⟩ := mem_clsL.1 hm
  have h1 := quo_rch (C := C) hr hn hn0 (inert := inert) ((mem_reachL hr (by omega)).1 hy)
  rw [e] at h1
  have h2 := (toI_in hm).1
  have h3 : (quoD s (fl n C)).idxOf (quoD s (fl n C))[i] = i := idx_get (nodup_dist _) (List.getElem?_eq_getElem hi)
  rw [h2, h3] at h1
  simpa using h1

/-- The quotient of a quotient. -/
theorem quo_twice (hr : s.Right) (hn : s.st = (n : Int)) (hn0 : 0 < n) (inert : Bool) {m : Nat} (hm : (quoSI inert s (fl n C)).st = (m : Int)) (hQ : (quoSI inert s (fl n C)).Right) {K : Nat → Int} (hK : ∀ i j, i < m → j < m → K i = K j → i = j) :
    quoSI inert (quoSI inert s (fl n C)) (fl m (clf m K)) = quoSI inert s (fl n C) ∧ fl m (fun j => toI (quoD (quoSI inert s (fl n C)) (fl m (clf m K))) (clf m K j)) = (List.range m).map Int.ofNat := by
  have hml : (quoD s (fl n C)).length = m := by
    have h1 : ((quoD s (fl n C)).length : Int) = (m : Int) := hm
    omega
  obtain ⟨G, hG⟩ : ∃ G, G = (List.range m).map Int.ofNat := ⟨_, rfl⟩
  have hL : fl m (clf m K) = G := by rw [hG, ← canon_fl]; exact canon_inj hK
  have hc : ∀ i, i < m → clf m K i = (i : Int) := fun i hi => by
    have h1 := fl_get (clf m K) hi
    rw [hL, hG] at h1
    simpa [hi] using h1.symm
  have hR : reachL (quoSI inert s (fl n C)) = G := by rw [quo_reach hr hn hn0 inert, hml, hG]
  have hat : ∀ x ∈ G, atL G x = x := fun x hx => by
    rw [hG] at hx
    obtain ⟨i, hi, rfl⟩ := List.mem_map.1 hx
    rw [List.mem_range] at hi
    rw [← hL]
    show atL (fl m (clf m K)) ((i : Nat) : Int) = _
    rw [atLF hi, hc i hi]; rfl
  have hD : quoD (quoSI inert s (fl n C)) G = G := by
    unfold quoD clsL
    rw [hR, List.map_congr_left (g := id) (fun x hx => hat x hx), List.map_id]
    rw [hG]; exact dist_ofNat m
  have hI : ∀ i, i < m → toI G (i : Int) = (i : Int) := fun i hi => by
    have h1 : ((i : Nat) : Int) ∈ G := by rw [hG]; exact List.mem_map.2 ⟨i, List.mem_range.2 hi, rfl⟩
    rw [(toI_in h1).1, hG, idx_ofNat hi]
  have hrng : ∀ x y l, (x, l, y) ∈ (quoSI inert s (fl n C)).es → ∃ i j : Nat, x = (i : Int) ∧ y = (j : Int) ∧ i < m ∧ j < m := fun x y l hx => by
    have h1 := offB_false.1 (hQ.edges _ hx)
    simp only at h1
    obtain ⟨i, rfl⟩ := Int.eq_ofNat_of_zero_le h1.1
    obtain ⟨j, rfl⟩ := Int.eq_ofNat_of_zero_le h1.2.2.2.2.1
    exact ⟨i, j, rfl, rfl, by omega, by omega⟩
  have hmG : ∀ i : Nat, i < m → ((i : Nat) : Int) ∈ G := fun i hi => by rw [hG]; exact List.mem_map.2 ⟨i, List.mem_range.2 hi, rfl⟩
  rw [hL, hD]
  constructor
  · have hes : nf ltE (quoEI inert (quoSI inert s (fl n C)) G G G) = (quoSI inert s (fl n C)).es := by
      refine (eq_nf stoE (srt_nf stoE _) (fun x => ?_)).symm
      show x ∈ (quoSI inert s (fl n C)).es ↔ _
      unfold quoEI
      rw [List.mem_filter, mem_quoE]
      constructor
      · intro hx
        obtain ⟨a, l, b⟩ := x
        obtain ⟨i, j, rfl, rfl, hi, hj⟩ := hrng _ _ _ hx
        refine ⟨⟨_, hmG i hi, l, _, hx, ?_⟩, ?_⟩
        · rw [hat _ (hmG i hi), hat _ (hmG j hj), hI i hi, hI j hj]
        · have h2 := (List.mem_filter.1 ((mem_nf stoE _ _).1 hx)).2
          exact h2
      · rintro ⟨⟨a, ha, l, b, hx, rfl⟩, _⟩
        obtain ⟨i, j, rfl, rfl, hi, hj⟩ := hrng _ _ _ hx
        rw [hat _ (hmG i hi), hat _ (hmG j hj), hI i hi, hI j hj]
        exact hx
    have hs0 : ∃ i : Nat, (quoSI inert s (fl n C)).s0 = (i : Int) ∧ i < m := by
      have h1 := hQ.st0
      obtain ⟨i, hi⟩ := Int.eq_ofNat_of_zero_le h1.2.2.2.2.1
      have h2 := (quo_in (L := fl n C) (quo_start hr hn hn0))
      have h3 := List.length_pos_of_mem h2
      exact ⟨i, hi, by omega⟩
    obtain ⟨i, hi, him⟩ := hs0
    have hdef : quoSI inert (quoSI inert s (fl n C)) G = ⟨((quoD (quoSI inert s (fl n C)) G).length : Int), (quoSI inert s (fl n C)).lb, toI (quoD (quoSI inert s (fl n C)) G) (atL G (quoSI inert s (fl n C)).s0), nf ltE (quoEI inert (quoSI inert s (fl n C)) G (quoD (quoSI inert s (fl n C)) G) (reachL (quoSI inert s (fl n C))))⟩ := rfl
    rw [hdef, hD, hR, hes, hi, hat _ (hmG i him), hI i him]
    have h4 : ((G.length : Nat) : Int) = (quoSI inert s (fl n C)).st := by rw [hm, hG]; simp
    rw [h4, ← hi]
  · rw [hG]
    unfold fl
    apply List.map_congr_left
    intro j hj
    rw [List.mem_range] at hj
    rw [hc j hj, ← hG]
    exact hI j hj
end
end Go.Proofs.YtmlmjhmdjieigaaGreatDoor

namespace Go.Proofs.YtmlmjhmdjieigaaGreatDoor
open Go.RowKit Pl

namespace Pl
theorem Via.stepsW {s t : Lts} (hst : ∀ a l b, stp s a l b → stp t a l b) {X : Nat → Prop} {p q : Nat} (h : Via s X p q) : Via t X p q := by
  induction h with
  | refl h => exact .refl h
  | tail _ h1 h2 ih => exact .tail ih (hst _ _ _ h1) h2
theorem Sg.stepsW {s t : Lts} (hst : ∀ a l b, stp s a l b → stp t a l b) {C : Nat → Int} {p : Nat} {l e : Int} (h : Sg s C p l e) : Sg t C p l e := by
  induction h with
  | here h1 h2 => exact .here (hst _ _ _ h1) h2
  | on h1 h2 _ ih => exact .on (hst _ _ _ h1) h2 ih
theorem IsBr.stepsW {s t : Lts} {n : Nat} (hst : ∀ a l b, stp s a l b ↔ stp t a l b) {R : Nat → Nat → Prop} (h : IsBr s n R) : IsBr t n R := by
  refine ⟨fun p q hp hq hr l p' hp' hs => ?_, fun p q hp hq hr l q' hq' hs => ?_⟩
  · rcases h.fwd p q hp hq hr l p' hp' ((hst _ _ _).2 hs) with h1 | ⟨q0, q', h1, h2, h3, h4⟩
    · exact .inl h1
    · exact .inr ⟨q0, q', h1.stepsW (fun a l b => (hst a l b).1), h2, (hst _ _ _).1 h3, h4⟩
  · rcases h.bwd p q hp hq hr l q' hq' ((hst _ _ _).2 hs) with h1 | ⟨q0, q', h1, h2, h3, h4⟩
    · exact .inl h1
    · exact .inr ⟨q0, q', h1.stepsW (fun a l b => (hst a l b).1), h2, (hst _ _ _).1 h3, h4⟩
theorem BrBig.stepsW {s t : Lts} {n : Nat} (hst : ∀ a l b, stp s a l b ↔ stp t a l b) {C : Nat → Int} (h : BrBig s n C) : BrBig t n C :=
  ⟨fun p q hp hq e l x hx => (h.still p q hp hq e l x (hx.stepsW (fun a l b => (hst a l b).2))).stepsW (fun a l b => (hst a l b).1), fun R hR => h.all R (hR.stepsW (fun a l b => (hst a l b).symm))⟩
theorem fl_injW {n : Nat} {f g : Nat → Int} (h : fl n f = fl n g) {p : Nat} (hp : p < n) : f p = g p := by
  have h1 := fl_get f hp
  rw [h, fl_get g hp] at h1
  exact (Option.some.inj h1).symm
end Pl
theorem brbig_norm {s : Lts} {n : Nat} {C : Nat → Int} (h : BrBig s n C) : BrBig s.norm n C := h.stepsW (fun _ _ _ => (mem_nf stoE _ s.es).symm)

/-- The two kinds of classes. -/
def KBig (kind : Bool) (s : Lts) (n : Nat) (C : Nat → Int) : Prop := (if kind then Big s n C else BrBig s n C) ∧ canon (fl n C) = fl n C
theorem KBig.norm {kind : Bool} {s : Lts} {n : Nat} {C : Nat → Int} (h : KBig kind s n C) : KBig kind s.norm n C := by
  refine ⟨?_, h.2⟩
  cases kind with
  | true => exact Big.steps (show Big s n C from h.1) (fun _ _ _ _ _ => (mem_nf stoE _ s.es).symm)
  | false => exact brbig_norm (show BrBig s n C from h.1)
section
variable {s : Lts} {n : Nat} {C : Nat → Int}
/-- Each state of a quotient is some state's. -/
theorem quo_has (hr : s.Right) (hn : s.st = (n : Int)) (hn0 : 0 < n) {i : Nat} (hi : i < (quoD s (fl n C)).length) : ∃ p, p < n ∧ (p : Int) ∈ reachL s ∧ toI (quoD s (fl n C)) (C p) = (i : Int) := by
  have h1 : (quoD s (fl n C))[i] ∈ quoD s (fl n C) := List.getElem_mem hi
  obtain ⟨x, hx, e⟩ := mem_clsL.1 h1
  obtain ⟨p, rfl, hp, _⟩ := quo_rng hr hn hn0 hx
  rw [atLF hp] at e
  refine ⟨p, hp, hx, ?_⟩
  have hnd : (quoD s (fl n C)).Nodup := nodup_dist _
  unfold toI
  rw [e, if_pos h1, hnd.idxOf_getElem i hi]
theorem quo_discrete (hr : s.Right) (hn : s.st = (n : Int)) (hn0 : 0 < n) {kind : Bool} (hC : KBig kind s n C) {m : Nat} (hm : (quoSI (!kind) s (fl n C)).st = (m : Int)) (hQ : (quoSI (!kind) s (fl n C)).Right) {K : Nat → Int} (hK : KBig kind (quoSI (!kind) s (fl n C)) m K) {i j : Nat} (hi : i < m) (hj : j < m) (e : K i = K j) : i = j := by
  have hml : (quoD s (fl n C)).length = m := by
    have h1 : ((quoD s (fl n C)).length : Int) = (m : Int) := hm
    omega
  obtain ⟨p, hp, _, h1⟩ := quo_has (C := C) hr hn hn0 (i := i) (by omega)
  obtain ⟨q, hq, _, h2⟩ := quo_has (C := C) hr hn hn0 (i := j) (by omega)
  have hpq : C p = C q := by
    cases kind with
    | true =>
      have hK1 : Big (quoSI false s (fl n C)) m K := hK.1
      rw [← hml] at hK1
      exact quo_apart_st hr hn hn0 (show Big s n C from hC.1) hK1 hp hq h1 h2 e
    | false =>
      have hK1 : BrBig (quoSI true s (fl n C)) m K := hK.1
      exact quo_apart_br hr hn hn0 (show BrBig s n C from hC.1) hm hQ hK1.still hp hq h1 h2 e
  rw [hpq, h2] at h1
  omega
theorem twice_all (hr : s.Right) (hn : s.st = (n : Int)) (hn0 : 0 < n) {kind : Bool} (hC : KBig kind s n C) {m : Nat} (hm : (quoSI (!kind) s (fl n C)).st = (m : Int)) (hQ : (quoSI (!kind) s (fl n C)).Right) {K : Nat → Int} (hK : KBig kind (quoSI (!kind) s (fl n C)) m K) :
    quoSI (!kind) (quoSI (!kind) s (fl n C)) (fl m K) = quoSI (!kind) s (fl n C) ∧ fl m (fun j => toI (quoD (quoSI (!kind) s (fl n C)) (fl m K)) (K j)) = (List.range m).map Int.ofNat := by
  have h := quo_twice (C := C) hr hn hn0 (!kind) hm hQ (K := K) (fun i j hi hj e => quo_discrete hr hn hn0 hC hm hQ hK hi hj e)
  have e1 : fl m (clf m K) = fl m K := by rw [← canon_fl]; exact hK.2
  rw [e1] at h
  refine ⟨h.1, ?_⟩
  rw [← h.2]
  have key : ∀ D : List Int, fl m (fun j => toI D (K j)) = fl m (fun j => toI D (clf m K j)) := fun D => by
    unfold fl
    apply List.map_congr_left
    intro j hj
    rw [fl_injW e1 (List.mem_range.1 hj)]
  exact key _
theorem quoSI_norm (inert : Bool) (s : Lts) (L : List Int) : (quoSI inert s L).norm = quoSI inert s L := by
  have h1 : nf ltE (quoSI inert s L).es = (quoSI inert s L).es := nf_of_srt stoE (srt_nf stoE _)
  unfold Lts.norm
  rw [h1]
end
end Go.Proofs.YtmlmjhmdjieigaaGreatDoor

namespace Go.Proofs.YtmlmjhmdjieigaaGreatDoor
open Go.RowKit Pl

/-- What Of answers of no states. -/
def QuoZero (lb : Int) (w : World) (e : Ending) (w' : World) : Prop :=
  ∃ (ea ta : Option Addr) (ec tc : Nat), e = .returned (.tuple #[.agg #[.int .i64 0, .int .i64 lb, .int .i64 0, .slice ea 0 ec], .slice ta 0 tc, .nilIface]) ∧ Below w.heap.size w w'

theorem right_zero {s : Lts} (h : s.Right) (hn : s.st = 0) : s.es = [] := by
  rcases he : s.es with _ | ⟨x, l⟩
  · rfl
  · have := offB_false.1 (h.edges x (by rw [he]; simp))
    rw [hn] at this
    omega

set_option maxRecDepth 100000 in
set_option maxHeartbeats 8000000 in
theorem quoOfZero_any {p : Addr} {s : Lts} (h : s.Right) (hn : s.st = 0) {a : Option Addr} {b off c : Nat} {w : World} (hG : GErr 10 p w) (hS : SlAt encE 3 w a b off s.es) (ca : Option Addr) (cc : Nat) (inert : Bool) :
    Calls Tryz.prog 96 #[.agg #[.int .i64 s.st, .int .i64 s.lb, .int .i64 s.s0, .slice a s.es.length c], .slice ca 0 cc, .bool inert] w (QuoZero s.lb w) := by
  have hB0 := ((Below.refl w.heap.size w).alloc (Nat.le_refl _) (Obj.cells #[.int .i64 s.st, .int .i64 s.lb, .int .i64 s.s0, .slice a s.es.length c] 24)).alloc (by simp) (Obj.cells #[.int .i64 0, .int .i64 0, .int .i64 0, .slice none 0 0] 24)
  have hx0 := (((Below.refl _ _).alloc (Nat.le_refl _) (Obj.cells #[.int .i64 0, .int .i64 0, .int .i64 0, .slice none 0 0] 24)).block w.heap.size (by simp)).trans (heap_alloc_new w (Obj.cells #[.int .i64 s.st, .int .i64 s.lb, .int .i64 s.s0, .slice a s.es.length c] 24))
  have hy0 := heap_alloc_at (w.alloc (Obj.cells #[.int .i64 s.st, .int .i64 s.lb, .int .i64 s.s0, .slice a s.es.length c] 24)) (Obj.cells #[.int .i64 0, .int .i64 0, .int .i64 0, .slice none 0 0] 24) (w.heap.size + 1) (by simp)
  have HN := Lib.hid (new_ok (c := c) h (hG.below hB0) (hS.below hB0 (Nat.le_refl _)))
  have HB0 := Lib.hid hB0; have HX0 := Lib.hid hx0; have HY0 := Lib.hid hy0
  have HNN : RowKit.Hid (s.norm.st = 0) := Lib.hid hn
  obtain ⟨el, hel⟩ : ∃ el, el = s.es.length := ⟨_, rfl⟩
  rw [hn, ← hel] at HN HX0 HB0 HY0 ⊢
  clear hB0 hx0 hy0 hS hG h hn hel
  go_enter Tryz.func96, Tryz.ntmps96
  go_wp2_with fail
  refine HN.out.mono ?_
  rintro e w1 ⟨gb, rfl, hgr, hB1, hz1⟩
  have hb1 := HB0.out.trans (hB1.mono (by simp; omega))
  have hx1 := (hB1.block w.heap.size (by simp; omega)).trans HX0.out
  have hy1 := (hB1.block (w.heap.size + 1) (by simp)).trans HY0.out
  have hcs := classes_any (c := cc) (a := ca) (b := 0) (off := 0) (l := []) (w := w1) (0 : Int) s.lb s.s0 (.slice a el c) (slAt_nil _ _ _ _) (by simp) (by simp)
  have HCS := Lib.hid hcs; have HB1 := Lib.hid hb1; have HX1 := Lib.hid hx1; have HY1 := Lib.hid hy1; have HGR := Lib.hid hgr
  obtain ⟨x0, x1, x2, x3, xl⟩ : w1.cell? ⟨w.heap.size, 0, none⟩ = some (.int .i64 0) ∧ w1.cell? ⟨w.heap.size, 1, none⟩ = some (.int .i64 s.lb) ∧ w1.cell? ⟨w.heap.size, 2, none⟩ = some (.int .i64 s.s0) ∧ w1.cell? ⟨w.heap.size, 3, none⟩ = some (.slice a el c) ∧ w.heap.size < w1.heap.size := by
    refine ⟨?_, ?_, ?_, ?_, (Array.getElem?_eq_some_iff.1 hx1).1⟩ <;> simp [World.cell?, hx1]
  clear hb1 hx1 hy1 hcs hB1 hgr hz1 HN HB0 HX0 HY0
  go_wp2_with fail
  refine HCS.out.mono ?_
  rintro e w2 ⟨rfl, hB2⟩
  have hcl : clB 0 [] = true := by decide
  rw [hcl]
  have hx2 := (hB2.block w.heap.size xl).trans HX1.out
  have hy2 := (hB2.block (w.heap.size + 1) (Array.getElem?_eq_some_iff.1 HY1.out).1).trans HY1.out
  have HB2 := Lib.hid (HB1.out.trans (hB2.mono HB1.out.size)); have HX2 := Lib.hid hx2; have HY2 := Lib.hid hy2; have HGR2 := Lib.hid (HGR.out.below hB2)
  clear x0 x1 x2 x3 xl
  have x1 : w2.cell? ⟨w.heap.size, 1, none⟩ = some (.int .i64 s.lb) := by simp [World.cell?, hx2]
  have xl := (Array.getElem?_eq_some_iff.1 hx2).1
  have hmm := @run_makeMap Tryz.prog
  have hr1 := (Rws.nil (Below.refl w2.heap.size w2)).addLit #[.int .i64 0, .int .i64 s.lb, .int .i64 0, .slice none 0 0] 24 (k := 4) (n := 1) (by decide) rfl
  have hr2 : Rws w2 ((w2.alloc (.cells #[.int .i64 0, .int .i64 s.lb, .int .i64 0, .slice none 0 0] 24)).alloc (.map #[] 0)) [RQ w2.heap.size 0 s.lb 0 (.slice none 0 0)] := hr1.alloc _
  have HRC := Lib.hid (reach_nil (HGR2.out.below hr2.bel) HNN.out)
  have HR2 := Lib.hid hr2
  clear hx2 hy2 hB2 hr1 hr2 hcl HCS HB1 HX1 HY1 HGR
  go_wp2_with fail
  refine HRC.out.mono ?_
  rintro e w3 ⟨rfl, hB3⟩
  have HR3 := Lib.hid (HR2.out.call hB3)
  have hx3 := (HR3.out.bel.block w.heap.size xl).trans HX2.out
  obtain ⟨tb, htb⟩ : ∃ tb, tb = w2.heap.size := ⟨_, rfl⟩
  rw [← htb] at HR3 ⊢
  have htlo : w.heap.size + 1 < tb := by rw [htb]; exact (Array.getElem?_eq_some_iff.1 HY2.out).1
  have HTB := Lib.hid htb
  clear hB3 htb HR2 HRC x1 xl
  obtain ⟨x0, x1, xl⟩ : w3.cell? ⟨w.heap.size, 0, none⟩ = some (.int .i64 0) ∧ w3.cell? ⟨w.heap.size, 1, none⟩ = some (.int .i64 s.lb) ∧ w.heap.size < w3.heap.size := by
    refine ⟨?_, ?_, (Array.getElem?_eq_some_iff.1 hx3).1⟩ <;> simp [World.cell?, hx3]
  have hmk := run_make_row' (P := Tryz.prog) 27 3 (.int .i64 0) 8 Tryz.underlying27 (by kernel_rfl) rfl .i64 .i64 0 (by omega) (by omega)
  rw [show ((0 : Nat) : Int) = 0 from rfl] at hmk
  clear hx3
  go_wp2_with fail
  refine wp_loop_rounds 1 ?_
  rw [rounds_succ]
  go_wp2_with fail
  refine wp_loop_rounds 1 ?_
  rw [rounds_succ]
  have hr4 := (HR3.out.alloc (.cells (madeCells #[.int .i64 0] 0) 3)).alloc (.map #[] 0)
  have HRC2 := Lib.hid (reach_nil (HGR2.out.below hr4.bel) HNN.out)
  have HR4 := Lib.hid hr4
  clear hr4 hmk
  go_wp2_with fail
  refine HRC2.out.mono ?_
  rintro e w5 ⟨rfl, hB5⟩
  have hr5 := HR4.out.call hB5
  have HR5 := Lib.hid hr5
  have HSO := Lib.hid (sorted_any (a := none) (b := 0) (off := 0) (c := 0) (xs := []) (w := w5) (slAt_nil _ _ _ _) (by simp))
  have t3 := hr5.cell (i := 0) rfl (j := 3) rfl
  have tl := (hr5.lt (i := 0) rfl).2
  clear hB5 hr5 HRC2 HR4 HR3 x0 x1 xl
  go_wp2_with fail
  refine wp_loop_rounds 1 ?_
  rw [rounds_succ]
  go_wp2_with fail
  refine HSO.out.mono ?_
  rintro e w6 ⟨v, rfl, hown, hB6⟩
  obtain ⟨va, vc, vb, rfl, hz1, hz2, hz3, hz4⟩ := slAt_own lenE hown
  have hlen : (nf ltE ([] : List E)).length = 0 := rfl
  rw [hlen]
  have hr6 := HR5.out.call hB6
  have t0 := hr6.cell (i := 0) rfl (j := 0) rfl
  have t1 := hr6.cell (i := 0) rfl (j := 1) rfl
  have t2 := hr6.cell (i := 0) rfl (j := 2) rfl
  have t3 := hr6.cell (i := 0) rfl (j := 3) rfl
  have tf := hr6.fz (i := 0) rfl 3
  have tl := (hr6.lt (i := 0) rfl).2
  have hy6 := (hr6.bel.block (w.heap.size + 1) (Array.getElem?_eq_some_iff.1 HY2.out).1).trans HY2.out
  have HY6 := Lib.hid hy6; have HR6 := Lib.hid hr6
  have hr7 := hr6.set 0 rfl 3 (.slice va 0 vc)
  have hr8 : Rws w2 (w6.setCell ⟨tb, 3, none⟩ (.slice va 0 vc)) [RQ tb 0 s.lb 0 (.slice va 0 vc)] := hr7
  have HR8 := Lib.hid hr8
  clear hown hz1 hz2 hz3 hz4 hlen hr6 hr7 hr8 hB6 hy6 HSO HR5 HR6
  go_upto_region 42 with fail
  obtain ⟨w8, hw8⟩ : ∃ w8, w8 = w6.setCell ⟨tb, 3, none⟩ (.slice va 0 vc) := ⟨_, rfl⟩
  rw [← hw8] at HR8 ⊢
  have hy8 := (HR8.out.bel.block (w.heap.size + 1) (Array.getElem?_eq_some_iff.1 HY2.out).1).trans HY2.out
  clear t0 t1 t2 t3 tf tl hw8
  have t0 := HR8.out.cell (i := 0) rfl (j := 0) rfl
  have t1 := HR8.out.cell (i := 0) rfl (j := 1) rfl
  have t2 := HR8.out.cell (i := 0) rfl (j := 2) rfl
  have t3 := HR8.out.cell (i := 0) rfl (j := 3) rfl
  have tl := (HR8.out.lt (i := 0) rfl).2
  have yl := (Array.getElem?_eq_some_iff.1 hy8).1
  have y0 : w8.cell? ⟨w.heap.size + 1, 0, none⟩ = some (.int .i64 0) := by simp [World.cell?, hy8]
  have y1 : w8.cell? ⟨w.heap.size + 1, 1, none⟩ = some (.int .i64 0) := by simp [World.cell?, hy8]
  have y2 : w8.cell? ⟨w.heap.size + 1, 2, none⟩ = some (.int .i64 0) := by simp [World.cell?, hy8]
  have y3 : w8.cell? ⟨w.heap.size + 1, 3, none⟩ = some (.slice none 0 0) := by simp [World.cell?, hy8]
  have yf0 : w8.frozen? ⟨w.heap.size + 1, 0, none⟩ = false := by simp [World.frozen?, hy8]
  have yf1 : w8.frozen? ⟨w.heap.size + 1, 1, none⟩ = false := by simp [World.frozen?, hy8]
  have yf2 : w8.frozen? ⟨w.heap.size + 1, 2, none⟩ = false := by simp [World.frozen?, hy8]
  have yf3 : w8.frozen? ⟨w.heap.size + 1, 3, none⟩ = false := by simp [World.frozen?, hy8]
  have HBL := Lib.hid (HB2.out.trans (HR8.out.bel.mono HB2.out.size))
  clear hy8 HY6
  go_wp2_with fail
  refine bodyPost_ret (v := .tuple #[.agg #[.int .i64 0, .int .i64 s.lb, .int .i64 0, .slice va 0 vc], .slice (some ⟨w3.heap.size, 0, none⟩) 0 0, .nilIface]) (by simp [results, Tryz.results96, go_sem, y0, y1, y2, y3]) rfl ⟨va, some ⟨w3.heap.size, 0, none⟩, vc, 0, rfl, ?_⟩
  exact (((HBL.out.setCell (by show w.heap.size ≤ w.heap.size + 1; omega) _).setCell (by show w.heap.size ≤ w.heap.size + 1; omega) _).setCell (by show w.heap.size ≤ w.heap.size + 1; omega) _).setCell (by show w.heap.size ≤ w.heap.size + 1; omega) _
end Go.Proofs.YtmlmjhmdjieigaaGreatDoor

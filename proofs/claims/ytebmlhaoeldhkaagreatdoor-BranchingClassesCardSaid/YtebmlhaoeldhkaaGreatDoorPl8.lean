/-
  Lemmas.
-/
import Derived.Test.YtebmlhaoeldhkaaGreatDoorGPl1
namespace Go.Proofs.YtebmlhaoeldhkaaGreatDoor
namespace Pl
def tau (s : Lts) (x y : Nat) : Prop := ((x : Int), (0 : Int), (y : Int)) ∈ s.es
inductive TR (s : Lts) (x : Nat) : Nat → Prop
  | refl : TR s x x
  | tail {y z : Nat} : TR s x y → tau s y z → TR s x z
theorem TR.trans {s : Lts} {x y z : Nat} (h : TR s x y) (h2 : TR s y z) : TR s x z := by
  induction h2 with
  | refl => exact h
  | tail _ ht ih => exact ih.tail ht
theorem TR.one {s : Lts} {x y : Nat} (h : tau s x y) : TR s x y := TR.refl.tail h
theorem tau_lt {s : Lts} (hr : s.Right) {n : Nat} (hn : s.st = (n : Int)) {x y : Nat} (h : tau s x y) : x < n ∧ y < n := by
  have := offB_false.1 (hr.edges _ h)
  simp only at this; omega
def taus (s : Lts) (x : Nat) : List Nat := ((s.outs (x : Int)).takeWhile (fun y => y.1 == 0)).map (fun y => y.2.toNat)
theorem takeWhile_mem {l : List S} (h : Srt ltS l) (h0 : ∀ y ∈ l, 0 ≤ y.1) (y : S) : y ∈ l.takeWhile (fun y => y.1 == 0) ↔ y ∈ l ∧ y.1 = 0 := by
  induction l with
  | nil => simp
  | cons a l ih =>
    have ha := List.pairwise_cons.1 h
    have ih := ih ha.2 (fun z hz => h0 z (List.mem_cons_of_mem _ hz))
    rw [List.takeWhile_cons]
    by_cases e : a.1 = 0
    · have hb : (a.1 == 0) = true := by simp [e]
      rw [hb]
      simp only [if_true, List.mem_cons, ih]
      constructor
      · rintro (rfl | ⟨h1, h2⟩)
        · exact ⟨.inl rfl, e⟩
        · exact ⟨.inr h1, h2⟩
      · rintro ⟨rfl | h1, h2⟩
        · exact .inl rfl
        · exact .inr ⟨h1, h2⟩
    · have hb : (a.1 == 0) = false := by simp [e]
      rw [hb]
      have hp := h0 a (List.mem_cons_self)
      simp only [Bool.false_eq_true, if_false, List.not_mem_nil, false_iff, List.mem_cons]
      rintro ⟨rfl | h1, h2⟩
      · exact e h2
      · have := ha.1 y h1
        rw [ltS_iff] at this
        omega
theorem mem_taus {s : Lts} (hr : s.Right) (hs : Srt ltE s.es) {x y : Nat} : y ∈ taus s x ↔ tau s x y := by
  unfold taus tau
  have h0 : ∀ z ∈ s.outs (x : Int), 0 ≤ z.1 := fun z hz => by
    have := offB_false.1 (hr.edges _ (mem_outs.1 hz)); exact this.2.2.1
  rw [List.mem_map]
  constructor
  · rintro ⟨z, hz, rfl⟩
    obtain ⟨h1, h2⟩ := (takeWhile_mem (outs_srt hs x) h0 z).1 hz
    have h3 := mem_outs.1 h1
    have := offB_false.1 (hr.edges _ h3)
    simp only at this
    rw [show ((z.2.toNat : Nat) : Int) = z.2 by omega, ← h2]
    exact h3
  · intro h
    exact ⟨(0, (y : Int)), (takeWhile_mem (outs_srt hs x) h0 _).2 ⟨mem_outs.2 h, rfl⟩, by simp⟩
def upd {α : Type} (f : Nat → α) (k : Nat) (v : α) : Nat → α := fun i => if i = k then v else f i
theorem upd_same {α : Type} (f : Nat → α) (k : Nat) (v : α) : upd f k v k = v := by simp [upd]
theorem upd_other {α : Type} (f : Nat → α) {k i : Nat} (v : α) (h : i ≠ k) : upd f k v i = f i := by simp [upd, h]
def cntB (p : Nat → Bool) (n : Nat) : Nat := ((List.range n).filter p).length
theorem cntB_succ (p : Nat → Bool) (n : Nat) : cntB p (n + 1) = cntB p n + (if p n then 1 else 0) := by
  unfold cntB
  rw [List.range_succ, List.filter_append, List.length_append]
  congr 1
  by_cases h : p n = true
  · simp [h]
  · simp [h]
theorem cntB_le (p : Nat → Bool) : ∀ n, cntB p n ≤ n
  | 0 => by simp [cntB]
  | n + 1 => by rw [cntB_succ]; have := cntB_le p n; split <;> omega
theorem cntB_congr {p q : Nat → Bool} : ∀ n, (∀ i, i < n → p i = q i) → cntB p n = cntB q n
  | 0, _ => by simp [cntB]
  | n + 1, h => by rw [cntB_succ, cntB_succ, cntB_congr n (fun i hi => h i (by omega)), h n (by omega)]
theorem cntB_set {p q : Nat → Bool} {k : Nat} (hp : p k = false) (hq : q k = true) (h : ∀ i, i ≠ k → q i = p i) : ∀ n, k < n → cntB q n = cntB p n + 1
  | 0, hk => by omega
  | n + 1, hk => by
    rw [cntB_succ, cntB_succ]
    by_cases e : k = n
    · subst e
      rw [cntB_congr (p := q) (q := p) k (fun i hi => h i (by omega)), hp, hq]; simp
    · rw [cntB_set hp hq h n (by omega), h n (by omega)]; omega
structure TS where
  low : Nat → Int
  num : Nat → Int
  cls : Nat → Int
  opn : List Nat
  met : Int
  found : Int
def TS.clo (t : TS) (x : Nat) : Prop := t.num x ≠ 0 ∧ x ∉ t.opn
structure TI (s : Lts) (n : Nat) (t : TS) (K : List Nat) (nx : Nat → Nat) : Prop where
  opn_lt : ∀ x ∈ t.opn, x < n
  num0 : ∀ x, x < n → 0 ≤ t.num x ∧ t.num x ≤ t.met
  inj : ∀ x y, x < n → y < n → t.num x = t.num y → t.num x ≠ 0 → x = y
  pos : ∀ x ∈ t.opn, t.num x ≠ 0
  srt : t.opn.Pairwise (fun a b => t.num b < t.num a)
  gin : ∀ g ∈ K, g ∈ t.opn
  gsrt : K.Pairwise (fun a b => t.num b < t.num a)
  tree : ∀ g ∈ K, ∀ x ∈ t.opn, t.num g ≤ t.num x → TR s g x
  back : ∀ x ∈ t.opn, ∃ g ∈ K, t.num g ≤ t.num x ∧ TR s x g
  low1 : ∀ g ∈ K, ∃ y ∈ t.opn, t.low g = t.num y ∧ t.num y ≤ t.num g ∧ TR s g y
  expl : ∀ x ∈ t.opn, ∀ y, tau s x y → (x ∈ K → y ∈ (taus s x).take (nx x)) → t.num y ≠ 0 ∧
    (y ∈ t.opn → ∀ g ∈ K, t.num g ≤ t.num x → (∀ g' ∈ K, t.num g' ≤ t.num x → t.num g' ≤ t.num g) → t.low g ≤ t.num y)
  clos : ∀ x, x < n → t.clo x → ∀ y, tau s x y → t.clo y ∧ t.cls y ≤ t.cls x
  cls0 : ∀ x, x < n → t.clo x → 0 ≤ t.cls x ∧ t.cls x < t.found
  scc : ∀ x y, x < n → y < n → t.clo x → t.clo y → (t.cls x = t.cls y ↔ TR s x y ∧ TR s y x)
  cnt : t.found + K.length ≤ t.met
  metc : t.met = (cntB (fun x => decide (t.num x ≠ 0)) n : Int)
  found0 : 0 ≤ t.found
theorem TI.start (s : Lts) (n : Nat) (f g : Nat → Int) (nx : Nat → Nat) : TI s n ⟨f, fun _ => 0, g, [], 0, 0⟩ [] nx where
  opn_lt x h := by simp at h
  num0 x _ := by simp
  inj x y _ _ _ h := by simp at h
  pos x h := by simp at h
  srt := by simp
  gin x h := by simp at h
  gsrt := by simp
  tree x h := by simp at h
  back x h := by simp at h
  low1 x h := by simp at h
  expl x h := by simp at h
  clos x _ h := by have := h.1; simp at this
  cls0 x _ h := by have := h.1; simp at this
  scc x y _ _ h := by have := h.1; simp at this
  cnt := by simp
  metc := by
    have : cntB (fun x => decide ((0 : Int) ≠ 0)) n = 0 := by simp [cntB]
    simp only [this]; rfl
  found0 := by simp
section
variable {s : Lts} {n : Nat} {t : TS} {K : List Nat} {nx : Nat → Nat}
theorem TI.met_le (h : TI s n t K nx) : 0 ≤ t.met ∧ t.met ≤ n := by
  have h1 := h.metc
  have h2 := cntB_le (fun x => decide (t.num x ≠ 0)) n
  omega
theorem TI.nd (h : TI s n t K nx) : t.opn.Nodup := h.srt.imp (fun {a b} h e => by subst e; omega)
def TS.enter (t : TS) (y : Nat) : TS := ⟨upd t.low y (t.met + 1), upd t.num y (t.met + 1), t.cls, y :: t.opn, t.met + 1, t.found⟩
theorem TI.enter (h : TI s n t K nx) {y : Nat} (hy : y < n) (h0 : t.num y = 0) {nx' : Nat → Nat} (hK : ∀ g ∈ K, TR s g y)
    (hE : ∀ x y', x ∈ K → y' ∈ (taus s x).take (nx' x) → y' = y ∨ y' ∈ (taus s x).take (nx x)) : TI s n (t.enter y) (y :: K) (upd nx' y 0) := by
  have hm := h.met_le
  have hyo : y ∉ t.opn := fun hh => h.pos y hh h0
  have ne : ∀ x ∈ t.opn, x ≠ y := fun x hx e => hyo (e ▸ hx)
  have neK : ∀ x ∈ K, x ≠ y := fun x hx => ne x (h.gin x hx)
  have nm : ∀ x ∈ t.opn, (t.enter y).num x = t.num x := fun x hx => upd_other _ _ (ne x hx)
  have nmK : ∀ x ∈ K, (t.enter y).num x = t.num x := fun x hx => nm x (h.gin x hx)
  have lw : ∀ x ∈ K, (t.enter y).low x = t.low x := fun x hx => upd_other _ _ (neK x hx)
  have nle : ∀ x ∈ t.opn, t.num x ≤ t.met := fun x hx => (h.num0 x (h.opn_lt x hx)).2
  have ny : (t.enter y).num y = t.met + 1 := upd_same _ _ _
  have nz : ∀ x, t.num x ≠ 0 → (t.enter y).num x = t.num x := fun x hx => upd_other _ _ (fun e => hx (e ▸ h0))
  have cl : ∀ x, (t.enter y).clo x ↔ t.clo x := by
    intro x
    have ho : (t.enter y).opn = y :: t.opn := rfl
    unfold TS.clo
    rw [ho, List.mem_cons]
    by_cases e : x = y
    · subst e; simp [h0]
    · rw [show (t.enter y).num x = t.num x from upd_other _ _ e]; simp [e]
  refine ⟨?_, ?_, ?_, ?_, ?_, ?_, ?_, ?_, ?_, ?_, ?_, ?_, ?_, ?_, ?_, ?_, h.found0⟩
  · intro x hx
    rcases List.mem_cons.1 hx with rfl | hx
    · exact hy
    · exact h.opn_lt x hx
  · intro x hx
    by_cases e : x = y
    · subst e; rw [ny]; show 0 ≤ t.met + 1 ∧ t.met + 1 ≤ t.met + 1; omega
    · rw [show (t.enter y).num x = t.num x from upd_other _ _ e]
      have := h.num0 x hx
      show 0 ≤ t.num x ∧ t.num x ≤ t.met + 1; omega
  · intro a b ha hb hab hne
    by_cases e1 : a = y <;> by_cases e2 : b = y
    · rw [e1, e2]
    · subst e1; rw [ny, show (t.enter a).num b = t.num b from upd_other _ _ e2] at hab
      have := h.num0 b hb; omega
    · subst e2; rw [ny, show (t.enter b).num a = t.num a from upd_other _ _ e1] at hab
      have := h.num0 a ha; omega
    · rw [show (t.enter y).num a = t.num a from upd_other _ _ e1] at hab hne
      rw [show (t.enter y).num b = t.num b from upd_other _ _ e2] at hab
      exact h.inj a b ha hb hab hne
  · intro x hx
    rcases List.mem_cons.1 hx with rfl | hx
    · rw [ny]; omega
    · rw [nm x hx]; exact h.pos x hx
  · show (y :: t.opn).Pairwise _
    rw [List.pairwise_cons]
    refine ⟨fun b hb => ?_, ?_⟩
    · rw [nm b hb, ny]; have := nle b hb; omega
    · exact List.Pairwise.imp_of_mem (fun {a b} ha hb hab => by rw [nm a ha, nm b hb]; exact hab) h.srt
  · intro g hg
    rcases List.mem_cons.1 hg with rfl | hg
    · exact List.mem_cons_self
    · exact List.mem_cons_of_mem _ (h.gin g hg)
  · rw [List.pairwise_cons]
    refine ⟨fun b hb => ?_, ?_⟩
    · rw [nmK b hb, ny]; have := nle b (h.gin b hb); omega
    · exact List.Pairwise.imp_of_mem (fun {a b} ha hb hab => by rw [nmK a ha, nmK b hb]; exact hab) h.gsrt
  · intro g hg x hx hle
    rcases List.mem_cons.1 hg with e1 | hg
    · rcases List.mem_cons.1 hx with e2 | hx
      · rw [e1, e2]; exact TR.refl
      · rw [e1, ny, nm x hx] at hle; have := nle x hx; omega
    · rcases List.mem_cons.1 hx with e2 | hx
      · rw [e2]; exact hK g hg
      · rw [nmK g hg, nm x hx] at hle; exact h.tree g hg x hx hle
  · intro x hx
    rcases List.mem_cons.1 hx with rfl | hx
    · exact ⟨x, List.mem_cons_self, Int.le_refl _, TR.refl⟩
    · obtain ⟨g, hg, h1, h2⟩ := h.back x hx
      exact ⟨g, List.mem_cons_of_mem _ hg, by rw [nmK g hg, nm x hx]; exact h1, h2⟩
  · intro g hg
    rcases List.mem_cons.1 hg with e1 | hg
    · rw [e1]; exact ⟨y, List.mem_cons_self, by rw [ny]; exact upd_same _ _ _, Int.le_refl _, TR.refl⟩
    · obtain ⟨z, hz, h1, h2, h3⟩ := h.low1 g hg
      exact ⟨z, List.mem_cons_of_mem _ hz, by rw [lw g hg, nm z hz]; exact h1, by rw [nm z hz, nmK g hg]; exact h2, h3⟩
  · intro x hx z hxz hE'
    rcases List.mem_cons.1 hx with rfl | hx
    · have := hE' List.mem_cons_self
      rw [upd_same, List.take_zero] at this
      simp at this
    · have hxy := ne x hx
      have hold : z = y ∨ (x ∈ K → z ∈ (taus s x).take (nx x)) := by
        by_cases hk : x ∈ K
        · have := hE' (List.mem_cons_of_mem _ hk)
          rw [upd_other _ _ hxy] at this
          rcases hE x z hk this with h1 | h1
          · exact .inl h1
          · exact .inr (fun _ => h1)
        · exact .inr (fun h => absurd h hk)
      have zone : ∀ g ∈ y :: K, (t.enter y).num g ≤ (t.enter y).num x → g ∈ K := by
        intro g hg hle
        rcases List.mem_cons.1 hg with e1 | hg
        · rw [e1, ny, nm x hx] at hle; have := nle x hx; omega
        · exact hg
      by_cases hzy : z = y
      · subst hzy
        refine ⟨by rw [ny]; omega, fun _ g hg hle _ => ?_⟩
        have hgK := zone g hg hle
        obtain ⟨w, hw, h1, h2, _⟩ := h.low1 g hgK
        rw [lw g hgK, ny, h1]
        have := nle g (h.gin g hgK); omega
      · have hold := hold.resolve_left hzy
        obtain ⟨h1, h2⟩ := h.expl x hx z hxz hold
        refine ⟨by rw [nz z h1]; exact h1, fun hzo g hg hle hdeep => ?_⟩
        have hzo' : z ∈ t.opn := by
          rcases List.mem_cons.1 hzo with e | e
          · exact absurd e hzy
          · exact e
        have hgK := zone g hg hle
        rw [lw g hgK, nz z h1]
        rw [nmK g hgK, nm x hx] at hle
        refine h2 hzo' g hgK hle (fun g' hg' hle' => ?_)
        have := hdeep g' (List.mem_cons_of_mem _ hg') (by rw [nmK g' hg', nm x hx]; exact hle')
        rw [nmK g' hg', nmK g hgK] at this
        exact this
  · intro x hx hc z hz
    have hc := (cl x).1 hc
    obtain ⟨h1, h2⟩ := h.clos x hx hc z hz
    exact ⟨(cl z).2 h1, h2⟩
  · intro x hx hc; exact h.cls0 x hx ((cl x).1 hc)
  · intro a b ha hb hca hcb; exact h.scc a b ha hb ((cl a).1 hca) ((cl b).1 hcb)
  · have := h.cnt; show t.found + ((y :: K).length : Int) ≤ t.met + 1; simp; omega
  · have := h.metc
    show t.met + 1 = _
    rw [cntB_set (p := fun x => decide (t.num x ≠ 0)) (q := fun x => decide ((t.enter y).num x ≠ 0)) (k := y) (by simp [h0]) (by rw [ny]; simp; omega)
      (fun i hi => by rw [show (t.enter y).num i = t.num i from upd_other _ _ hi]) n hy]
    omega
theorem TI.scan {x : Nat} (h : TI s n t (x :: K) nx) {y : Nat} (hx : (taus s x)[nx x]? = some y) (hxy : tau s x y) (hy : y < n) (h0 : t.num y ≠ 0) :
    TI s n { t with low := if y ∈ t.opn then upd t.low x (min (t.low x) (t.num y)) else t.low } (x :: K) (upd nx x (nx x + 1)) := by
  have hxo : x ∈ t.opn := h.gin x List.mem_cons_self
  have lwo : ∀ g, g ≠ x → (if y ∈ t.opn then upd t.low x (min (t.low x) (t.num y)) else t.low) g = t.low g := by
    intro g hg; split
    · exact upd_other _ _ hg
    · rfl
  have lwx : (if y ∈ t.opn then upd t.low x (min (t.low x) (t.num y)) else t.low) x ≤ t.low x := by
    split
    · rw [upd_same]; omega
    · exact Int.le_refl _
  have lwy : y ∈ t.opn → (if y ∈ t.opn then upd t.low x (min (t.low x) (t.num y)) else t.low) x ≤ t.num y := by
    intro hh; rw [if_pos hh, upd_same]; omega
  have tk : ∀ x' z, x' ∈ x :: K → z ∈ (taus s x').take (upd nx x (nx x + 1) x') → (x' = x ∧ z = y) ∨ z ∈ (taus s x').take (nx x') := by
    intro x' z _ hz
    by_cases e : x' = x
    · subst e
      rw [upd_same] at hz
      obtain ⟨hl, hg⟩ := List.getElem?_eq_some_iff.1 hx
      rw [List.take_succ_eq_append_getElem hl, hg] at hz
      rcases List.mem_append.1 hz with h1 | h1
      · exact .inr h1
      · exact .inl ⟨rfl, by simpa using h1⟩
    · rw [upd_other _ _ e] at hz; exact .inr hz
  refine ⟨h.opn_lt, h.num0, h.inj, h.pos, h.srt, h.gin, h.gsrt, h.tree, h.back, ?_, ?_, h.clos, h.cls0, h.scc, h.cnt, h.metc, h.found0⟩
  · intro g hg
    show ∃ y_1 ∈ t.opn, (if y ∈ t.opn then upd t.low x (min (t.low x) (t.num y)) else t.low) g = t.num y_1 ∧ t.num y_1 ≤ t.num g ∧ TR s g y_1
    by_cases e : g = x
    · subst e
      obtain ⟨z, hz, h1, h2, h3⟩ := h.low1 g hg
      by_cases hyo : y ∈ t.opn
      · rw [if_pos hyo, upd_same]
        by_cases hle : t.low g ≤ t.num y
        · exact ⟨z, hz, by rw [Int.min_eq_left hle]; exact h1, h2, h3⟩
        · exact ⟨y, hyo, by rw [Int.min_eq_right (by omega)], by omega, TR.one hxy⟩
      · rw [if_neg hyo]; exact ⟨z, hz, h1, h2, h3⟩
    · rw [lwo g e]; exact h.low1 g hg
  · intro x' hx' z hxz hE
    show t.num z ≠ 0 ∧ (z ∈ t.opn → ∀ g ∈ x :: K, t.num g ≤ t.num x' → (∀ g' ∈ x :: K, t.num g' ≤ t.num x' → t.num g' ≤ t.num g) → (if y ∈ t.opn then upd t.low x (min (t.low x) (t.num y)) else t.low) g ≤ t.num z)
    by_cases hnew : x' = x ∧ z = y
    · obtain ⟨rfl, rfl⟩ := hnew
      refine ⟨h0, fun hzo g hg hle hdeep => ?_⟩
      have h1 := hdeep x' List.mem_cons_self (Int.le_refl _)
      have hgo := h.gin g hg
      have : g = x' := h.inj g x' (h.opn_lt g hgo) (h.opn_lt x' hx') (by omega) (h.pos g hgo)
      subst this
      exact lwy hzo
    · have hold : x' ∈ x :: K → z ∈ (taus s x').take (nx x') := fun hk => (tk x' z hk (hE hk)).resolve_left hnew
      obtain ⟨h1, h2⟩ := h.expl x' hx' z hxz hold
      refine ⟨h1, fun hzo g hg hle hdeep => ?_⟩
      have h3 := h2 hzo g hg hle hdeep
      by_cases e : g = x
      · subst e; omega
      · rw [lwo g e]; exact h3
theorem TI.top {x : Nat} (h : TI s n t (x :: K) nx) : ∀ g ∈ x :: K, t.num g ≤ t.num x := by
  intro g hg
  rcases List.mem_cons.1 hg with rfl | hg
  · exact Int.le_refl _
  · have := (List.pairwise_cons.1 h.gsrt).1 g hg; omega
theorem TI.leave1 {x : Nat} (h : TI s n t (x :: K) nx) (hall : ∀ y, tau s x y → y ∈ (taus s x).take (nx x)) (hne : t.low x ≠ t.num x) :
    ∃ g K', K = g :: K' ∧ TI s n { t with low := upd t.low g (min (t.low g) (t.low x)) } K nx := by
  have hxo : x ∈ t.opn := h.gin x List.mem_cons_self
  have hs := List.pairwise_cons.1 h.gsrt
  obtain ⟨y, hyo, hly, hyx, hxy⟩ := h.low1 x List.mem_cons_self
  have hlt : t.num y < t.num x := by omega
  obtain ⟨g0, hg0, hg0y, hyg0⟩ := h.back y hyo
  have hg0K : g0 ∈ K := by
    rcases List.mem_cons.1 hg0 with rfl | hh
    · omega
    · exact hh
  have hxK : x ∉ K := fun hh => by have := hs.1 x hh; omega
  obtain ⟨g, K', rfl⟩ : ∃ g K', K = g :: K' := by
    cases K with
    | nil => simp at hg0K
    | cons a b => exact ⟨a, b, rfl⟩
  refine ⟨g, K', rfl, ?_⟩
  have hgo : g ∈ t.opn := h.gin g (by simp)
  have hs2 := List.pairwise_cons.1 hs.2
  have hgmax : ∀ g' ∈ g :: K', t.num g' ≤ t.num g := by
    intro g' hg'
    rcases List.mem_cons.1 hg' with rfl | hh
    · exact Int.le_refl _
    · have := hs2.1 g' hh; omega
  have hg0g := hgmax g0 hg0K
  have hgx : t.num g < t.num x := hs.1 g (by simp)
  refine ⟨h.opn_lt, h.num0, h.inj, h.pos, h.srt, fun a ha => h.gin a (List.mem_cons_of_mem _ ha), hs.2, fun a ha => h.tree a (List.mem_cons_of_mem _ ha), ?_, ?_, ?_, h.clos, h.cls0, h.scc, ?_, h.metc, h.found0⟩
  · intro z hz
    show ∃ a ∈ g :: K', t.num a ≤ t.num z ∧ TR s z a
    obtain ⟨a, ha, h1, h2⟩ := h.back z hz
    rcases List.mem_cons.1 ha with rfl | ha
    · exact ⟨g0, hg0K, by omega, (h2.trans hxy).trans hyg0⟩
    · exact ⟨a, ha, h1, h2⟩
  · intro a ha
    show ∃ y ∈ t.opn, upd t.low g (min (t.low g) (t.low x)) a = t.num y ∧ t.num y ≤ t.num a ∧ TR s a y
    by_cases e : a = g
    · subst e
      rw [upd_same]
      obtain ⟨z, hz, h1, h2, h3⟩ := h.low1 a (List.mem_cons_of_mem _ ha)
      by_cases hle : t.low a ≤ t.low x
      · exact ⟨z, hz, by rw [Int.min_eq_left hle]; exact h1, h2, h3⟩
      · exact ⟨y, hyo, by rw [Int.min_eq_right (by omega)]; exact hly, by omega, (h.tree a (List.mem_cons_of_mem _ ha) x hxo (by omega)).trans hxy⟩
    · rw [upd_other _ _ e]; exact h.low1 a (List.mem_cons_of_mem _ ha)
  · intro x' hx' z hxz hE
    show t.num z ≠ 0 ∧ (z ∈ t.opn → ∀ a ∈ g :: K', t.num a ≤ t.num x' → (∀ g' ∈ g :: K', t.num g' ≤ t.num x' → t.num g' ≤ t.num a) → upd t.low g (min (t.low g) (t.low x)) a ≤ t.num z)
    have hold : x' ∈ x :: g :: K' → z ∈ (taus s x').take (nx x') := by
      intro hk
      rcases List.mem_cons.1 hk with rfl | hk
      · exact hall z hxz
      · exact hE hk
    obtain ⟨h1, h2⟩ := h.expl x' hx' z hxz hold
    refine ⟨h1, fun hzo a ha hle hdeep => ?_⟩
    by_cases hxx : t.num x ≤ t.num x'
    · have hag : a = g := by
        have h3 := hdeep g (by simp) (by omega)
        have h4 := hgmax a ha
        have hao := h.gin a (List.mem_cons_of_mem _ ha)
        exact h.inj a g (h.opn_lt a hao) (h.opn_lt g hgo) (by omega) (h.pos a hao)
      subst hag
      rw [upd_same]
      have := h2 hzo x List.mem_cons_self hxx (fun g' hg' _ => h.top g' hg')
      omega
    · have h3 := h2 hzo a (List.mem_cons_of_mem _ ha) hle (fun g' hg' hle' => by
        rcases List.mem_cons.1 hg' with rfl | hg'
        · omega
        · exact hdeep g' hg' hle')
      by_cases e : a = g
      · subst e; rw [upd_same]; omega
      · rw [upd_other _ _ e]; exact h3
  · have := h.cnt; show t.found + ((g :: K').length : Int) ≤ t.met; simp at this ⊢; omega
theorem clo_TR (h : TI s n t K nx) (hr : s.Right) (hn : s.st = (n : Int)) {x y : Nat} (hx : x < n) (hc : t.clo x) (h1 : TR s x y) : y < n ∧ t.clo y := by
  induction h1 with
  | refl => exact ⟨hx, hc⟩
  | tail _ ht ih => exact ⟨(tau_lt hr hn ht).2, (h.clos _ ih.1 ih.2 _ ht).1⟩
theorem TI.leave2 {x : Nat} (h : TI s n t (x :: K) nx) (hr : s.Right) (hn : s.st = (n : Int)) (hall : ∀ y, tau s x y → y ∈ (taus s x).take (nx x)) (heq : t.low x = t.num x) {Pp Q : List Nat} (ho : t.opn = Pp ++ x :: Q) :
    TI s n { t with opn := Q, cls := fun i => if i ∈ Pp ++ [x] then t.found else t.cls i, found := t.found + 1 } K nx ∧ (∀ g ∈ K, t.low g ≤ t.low x) := by
  have hxo : x ∈ t.opn := h.gin x List.mem_cons_self
  have hs := List.pairwise_cons.1 h.gsrt
  have hsr := h.srt
  rw [ho] at hsr
  obtain ⟨_, hs2, hs3⟩ := List.pairwise_append.1 hsr
  have hP : ∀ z ∈ Pp, t.num x < t.num z := fun z hz => hs3 z hz x List.mem_cons_self
  have hQ : ∀ z ∈ Q, t.num z < t.num x := fun z hz => (List.pairwise_cons.1 hs2).1 z hz
  have mo : ∀ z, z ∈ t.opn ↔ z ∈ Pp ++ [x] ∨ z ∈ Q := by intro z; rw [ho]; simp [or_assoc]
  have mC : ∀ z, z ∈ Pp ++ [x] → z ∈ t.opn ∧ t.num x ≤ t.num z := by
    intro z hz
    refine ⟨(mo z).2 (.inl hz), ?_⟩
    rcases List.mem_append.1 hz with h1 | h1
    · have := hP z h1; omega
    · simp at h1; subst h1; exact Int.le_refl _
  have mQ : ∀ z, z ∈ Q → z ∈ t.opn := fun z hz => (mo z).2 (.inr hz)
  have nQ : ∀ z, z ∈ t.opn → t.num z < t.num x → z ∈ Q := by
    intro z hz hlt
    rcases (mo z).1 hz with h1 | h1
    · have := (mC z h1).2; omega
    · exact h1
  have nC : ∀ z, z ∈ t.opn → t.num x ≤ t.num z → z ∈ Pp ++ [x] := by
    intro z hz hle
    rcases (mo z).1 hz with h1 | h1
    · exact h1
    · have := hQ z h1; omega
  have QC : ∀ z, z ∈ Q → z ∉ Pp ++ [x] := fun z hz h1 => by have := hQ z hz; have := (mC z h1).2; omega
  have KQ : ∀ g ∈ K, g ∈ Q := fun g hg => nQ g (h.gin g (List.mem_cons_of_mem _ hg)) (hs.1 g hg)
  have cl : ∀ z, ({ t with opn := Q, cls := fun i => if i ∈ Pp ++ [x] then t.found else t.cls i, found := t.found + 1 } : TS).clo z ↔ (t.clo z ∨ z ∈ Pp ++ [x]) := by
    intro z
    unfold TS.clo
    constructor
    · rintro ⟨h1, h2⟩
      by_cases hz : z ∈ t.opn
      · exact .inr (((mo z).1 hz).resolve_right h2)
      · exact .inl ⟨h1, hz⟩
    · rintro (⟨h1, h2⟩ | h1)
      · exact ⟨h1, fun hh => h2 (mQ z hh)⟩
      · exact ⟨h.pos z (mC z h1).1, fun hh => QC z hh h1⟩
  have clC : ∀ z, t.clo z → z ∉ Pp ++ [x] := fun z hz h1 => hz.2 (mC z h1).1
  have reach : ∀ z, z ∈ Pp ++ [x] → TR s z x ∧ TR s x z := by
    intro z hz
    obtain ⟨hzo, hle⟩ := mC z hz
    refine ⟨?_, h.tree x List.mem_cons_self z hzo hle⟩
    obtain ⟨g, hg, _, h2⟩ := h.back z hzo
    exact h2.trans (h.tree g hg x hxo (h.top g hg))
  refine ⟨⟨fun z hz => h.opn_lt z (mQ z hz), h.num0, h.inj, fun z hz => h.pos z (mQ z hz), (List.pairwise_cons.1 hs2).2, KQ, hs.2, fun g hg z hz => h.tree g (List.mem_cons_of_mem _ hg) z (mQ z hz), ?_, ?_, ?_, ?_, ?_, ?_, ?_, h.metc, by have := h.found0; show 0 ≤ t.found + 1; omega⟩, ?_⟩
  · intro z hz
    have hz : z ∈ Q := hz
    obtain ⟨g, hg, h1, h2⟩ := h.back z (mQ z hz)
    rcases List.mem_cons.1 hg with rfl | hg
    · have := hQ z hz; omega
    · exact ⟨g, hg, h1, h2⟩
  · intro g hg
    obtain ⟨z, hz, h1, h2, h3⟩ := h.low1 g (List.mem_cons_of_mem _ hg)
    exact ⟨z, nQ z hz (by have := hs.1 g hg; omega), h1, h2, h3⟩
  · intro x' hx' z hxz hE
    have hx' : x' ∈ Q := hx'
    have hxlt := hQ x' hx'
    have hold : x' ∈ x :: K → z ∈ (taus s x').take (nx x') := by
      intro hk
      rcases List.mem_cons.1 hk with rfl | hk
      · omega
      · exact hE hk
    obtain ⟨h1, h2⟩ := h.expl x' (mQ x' hx') z hxz hold
    refine ⟨h1, fun hzo g hg hle hdeep => h2 (mQ z hzo) g (List.mem_cons_of_mem _ hg) hle (fun g' hg' hle' => ?_)⟩
    rcases List.mem_cons.1 hg' with rfl | hg'
    · have : t.num g' ≤ t.num x' := hle'; omega
    · exact hdeep g' hg' hle'
  · intro x' hx' hc z hz
    rw [cl] at hc ⊢
    show (t.clo z ∨ z ∈ Pp ++ [x]) ∧ (if z ∈ Pp ++ [x] then t.found else t.cls z) ≤ (if x' ∈ Pp ++ [x] then t.found else t.cls x')
    rcases hc with hc | hc
    · obtain ⟨h1, h2⟩ := h.clos x' hx' hc z hz
      rw [if_neg (clC z h1), if_neg (clC x' hc)]
      exact ⟨.inl h1, h2⟩
    · obtain ⟨hxo', hle'⟩ := mC x' hc
      have hold : x' ∈ x :: K → z ∈ (taus s x').take (nx x') := by
        intro hk
        rcases List.mem_cons.1 hk with rfl | hk
        · exact hall z hz
        · exact absurd hc (QC x' (KQ x' hk))
      obtain ⟨h1, h2⟩ := h.expl x' hxo' z hz hold
      rw [if_pos hc]
      by_cases hzo : z ∈ t.opn
      · have h3 := h2 hzo x List.mem_cons_self hle' (fun g' hg' _ => h.top g' hg')
        have hzC := nC z hzo (by omega)
        rw [if_pos hzC]
        exact ⟨.inr hzC, Int.le_refl _⟩
      · have hzc : t.clo z := ⟨h1, hzo⟩
        rw [if_neg (clC z hzc)]
        have := h.cls0 z (tau_lt hr hn hz).2 hzc
        exact ⟨.inl hzc, by omega⟩
  · intro z hz hc
    rw [cl] at hc
    show 0 ≤ (if z ∈ Pp ++ [x] then t.found else t.cls z) ∧ (if z ∈ Pp ++ [x] then t.found else t.cls z) < t.found + 1
    rcases hc with hc | hc
    · rw [if_neg (clC z hc)]; have := h.cls0 z hz hc; omega
    · rw [if_pos hc]
      have hf : 0 ≤ t.found := h.found0
      omega
  · intro a b ha hb hca hcb
    rw [cl] at hca hcb
    show (if a ∈ Pp ++ [x] then t.found else t.cls a) = (if b ∈ Pp ++ [x] then t.found else t.cls b) ↔ _
    rcases hca with hca | hca <;> rcases hcb with hcb | hcb
    · rw [if_neg (clC a hca), if_neg (clC b hcb)]; exact h.scc a b ha hb hca hcb
    · rw [if_neg (clC a hca), if_pos hcb]
      have := h.cls0 a ha hca
      constructor
      · intro e; omega
      · rintro ⟨h1, _⟩
        exact absurd hcb (clC b (clo_TR h hr hn ha hca h1).2)
    · rw [if_pos hca, if_neg (clC b hcb)]
      have := h.cls0 b hb hcb
      constructor
      · intro e; omega
      · rintro ⟨_, h1⟩
        exact absurd hca (clC a (clo_TR h hr hn hb hcb h1).2)
    · rw [if_pos hca, if_pos hcb]
      have h1 := reach a hca; have h2 := reach b hcb
      exact ⟨fun _ => ⟨h1.1.trans h2.2, h2.1.trans h1.2⟩, fun _ => rfl⟩
  · have := h.cnt; show t.found + 1 + (K.length : Int) ≤ t.met; simp at this; omega
  · intro g hg
    obtain ⟨z, _, h1, h2, _⟩ := h.low1 g (List.mem_cons_of_mem _ hg)
    have := hs.1 g hg
    omega
end
end Pl
end Go.Proofs.YtebmlhaoeldhkaaGreatDoor

/-
  Lemmas.
-/
import Derived.Test.YtffjcehopoaboaaGreatDoorGPl1
namespace Go.Proofs.YtffjcehopoaboaaGreatDoor
namespace Pl
def tau (s : Lts) (x y : Nat) : Prop := ((x : Int), (0 : Int), (y : Int)) ∈ s.es
inductive TR (s : Lts) (x : Nat) : Nat → Prop
  | refl : TR s x x
  | tail {y z : Nat} : TR s x y → tau s y z → TR s x z
theorem TR.trans {s : Lts} {x y z : Nat} (h : TR s x y) (h2 : TR s y z) : TR s x z := by
  induction h2 with
  | refl => exact h
  | tail _ ht ih => exact ih.tail ht
theorem TR.one {s : Lts} {x y : Nat} (h : tau s x y) : TR s x y := TR.refl.tail h
theorem tau_lt {s : Lts} (hr : s.Right) {n : Nat} (hn : s.st = (n : Int)) {x y : Nat} (h : tau s x y) : x < n ∧ y < n := by
  have := offB_false.1 (hr.edges _ h)
  simp only at this; omega
def taus (s : Lts) (x : Nat) : List Nat := ((s.outs (x : Int)).takeWhile (fun y => y.1 == 0)).map (fun y => y.2.toNat)
theorem takeWhile_mem {l : List S} (h : Srt ltS l) (h0 : ∀ y ∈ l, 0 ≤ y.1) (y : S) : y ∈ l.takeWhile (fun y => y.1 == 0) ↔ y ∈ l ∧ y.1 = 0 := by
  induction l with
  | nil => simp
  | cons a l ih =>
    have ha := List.pairwise_cons.1 h
    have ih := ih ha.2 (fun z hz => h0 z (List.mem_cons_of_mem _ hz))
    rw [List.takeWhile_cons]
    by_cases e : a.1 = 0
    · have hb : (a.1 == 0) = true := by simp [e]
      rw [hb]
      simp only [if_true, List.mem_cons, ih]
      constructor
      · rintro (rfl | ⟨h1, h2⟩)
        · exact ⟨.inl rfl, e⟩
        · exact ⟨.inr h1, h2⟩
      · rintro ⟨rfl | h1, h2⟩
        · exact .inl rfl
        · exact .inr ⟨h1, h2⟩
    · have hb : (a.1 == 0) = false := by simp [e]
      rw [hb]
      have hp := h0 a (List.mem_cons_self)
      simp only [Bool.false_eq_true, if_false, List.not_mem_nil, false_iff, List.mem_cons]
      rintro ⟨rfl | h1, h2⟩
      · exact e h2
      · have := ha.1 y h1
        rw [ltS_iff] at this
        omega
theorem mem_taus {s : Lts} (hr : s.Right) (hs : Srt ltE s.es) {x y : Nat} : y ∈ taus s x ↔ tau s x y := by
  unfold taus tau
  have h0 : ∀ z ∈ s.outs (x : Int), 0 ≤ z.1 := fun z hz => by
    have := offB_false.1 (hr.edges _ (mem_outs.1 hz)); exact this.2.2.1
  rw [List.mem_map]
  constructor
  · rintro ⟨z, hz, rfl⟩
    obtain ⟨h1, h2⟩ := (takeWhile_mem (outs_srt hs x) h0 z).1 hz
    have h3 := mem_outs.1 h1
    have := offB_false.1 (hr.edges _ h3)
    simp only at this
    rw [show ((z.2.toNat : Nat) : Int) = z.2 by omega, ← h2]
    exact h3
  · intro h
    exact ⟨(0, (y : Int)), (takeWhile_mem (outs_srt hs x) h0 _).2 ⟨mem_outs.2 h, rfl⟩, by simp⟩
def upd {α : Type} (f : Nat → α) (k : Nat) (v : α) : Nat → α := fun i => if i = k then v else f i
theorem upd_same {α : Type} (f : Nat → α) (k : Nat) (v : α) : upd f k v k = v := by simp [upd]
theorem upd_other {α : Type} (f : Nat → α) {k i : Nat} (v : α) (h : i ≠ k) : upd f k v i = f i := by simp [upd, h]
def cntB (p : Nat → Bool) (n : Nat) : Nat := ((List.range n).filter p).length
theorem cntB_succ (p : Nat → Bool) (n : Nat) : cntB p (n + 1) = cntB p n + (if p n then 1 else 0) := by
  unfold cntB
  rw [List.range_succ, List.filter_append, List.length_append]
  congr 1
  by_cases h : p n = true
  · simp [h]
  · simp [h]
theorem cntB_le (p : Nat → Bool) : ∀ n, cntB p n ≤ n
  | 0 => by simp [cntB]
  | n + 1 => by rw [cntB_succ]; have := cntB_le p n; split <;> omega
theorem cntB_congr {p q : Nat → Bool} : ∀ n, (∀ i, i < n → p i = q i) → cntB p n = cntB q n
  | 0, _ => by simp [cntB]
  | n + 1, h => by rw [cntB_succ, cntB_succ, cntB_congr n (fun i hi => h i (by omega)), h n (by omega)]
theorem cntB_set {p q : Nat → Bool} {k : Nat} (hp : p k = false) (hq : q k = true) (h : ∀ i, i ≠ k → q i = p i) : ∀ n, k < n → cntB q n = cntB p n + 1
  | 0, hk => by omega
  | n + 1, hk => by
    rw [cntB_succ, cntB_succ]
    by_cases e : k = n
    · subst e
      rw [cntB_congr (p := q) (q := p) k (fun i hi => h i (by omega)), hp, hq]; simp
    · rw [cntB_set hp hq h n (by omega), h n (by omega)]; omega
structure TS where
  low : Nat → Int
  num : Nat → Int
  cls : Nat → Int
  opn : List Nat
  met : Int
  found : Int
def TS.clo (t : TS) (x : Nat) : Prop := t.num x ≠ 0 ∧ x ∉ t.opn
structure TI (s : Lts) (n : Nat) (t : TS) (K : List Nat) (nx : Nat → Nat) : Prop where
  opn_lt : ∀ x ∈ t.opn, x < n
  num0 : ∀ x, x < n → 0 ≤ t.num x ∧ t.num x ≤ t.met
  inj : ∀ x y, x < n → y < n → t.num x = t.num y → t.num x ≠ 0 → x = y
  pos : ∀ x ∈ t.opn, t.num x ≠ 0
  srt : t.opn.Pairwise (fun a b => t.num b < t.num a)
  gin : ∀ g ∈ K, g ∈ t.opn
  gsrt : K.Pairwise (fun a b => t.num b < t.num a)
  tree : ∀ g ∈ K, ∀ x ∈ t.opn, t.num g ≤ t.num x → TR s g x
  back : ∀ x ∈ t.opn, ∃ g ∈ K, t.num g ≤ t.num x ∧ TR s x g
  low1 : ∀ g ∈ K, ∃ y ∈ t.opn, t.low g = t.num y ∧ t.num y ≤ t.num g ∧ TR s g y
  expl : ∀ x ∈ t.opn, ∀ y, tau s x y → (x ∈ K → y ∈ (taus s x).take (nx x)) → t.num y ≠ 0 ∧
    (y ∈ t.opn → ∀ g ∈ K, t.num g ≤ t.num x → (∀ g' ∈ K, t.num g' ≤ t.num x → t.num g' ≤ t.num g) → t.low g ≤ t.num y)
  clos : ∀ x, x < n → t.clo x → ∀ y, tau s x y → t.clo y ∧ t.cls y ≤ t.cls x
  cls0 : ∀ x, x < n → t.clo x → 0 ≤ t.cls x ∧ t.cls x < t.found
  scc : ∀ x y, x < n → y < n → t.clo x → t.clo y → (t.cls x = t.cls y ↔ TR s x y ∧ TR s y x)
  cnt : t.found + K.length ≤ t.met
  metc : t.met = (cntB (fun x => decide (t.num x ≠ 0)) n : Int)
  found0 : 0 ≤ t.found
theorem TI.start (s : Lts) (n : Nat) (f g : Nat → Int) (nx : Nat → Nat) : TI s n ⟨f, fun _ => 0, g, [], 0, 0⟩ [] nx where
  opn_lt x h := by simp at h
  num0 x _ := by simp
  inj x y _ _ _ h := by simp at h
  pos x h := by simp at h
  srt := by simp
  gin x h := by simp at h
  gsrt := by simp
  tree x h := by simp at h
  back x h := by simp at h
  low1 x h := by simp at h
  expl x h := by simp at h
  clos x _ h := by have := h.1; simp at this
  cls0 x _ h := by have := h.1; simp at this
  scc x y _ _ h := by have := h.1; simp at this
  cnt := by simp
  metc := by
    have : cntB (fun x => decide ((0 : Int) ≠ 0)) n = 0 := by simp [cntB]
    simp only [this]; rfl
  found0 := by simp
section
variable {s : Lts} {n : Nat} {t : TS} {K : List Nat} {nx : Nat → Nat}
theorem TI.met_le (h : TI s n t K nx) : 0 ≤ t.met ∧ t.met ≤ n := by
  have h1 := h.metc
  have h2 := cntB_le (fun x => decide (t.num x ≠ 0)) n
  omega
theorem TI.nd (h : TI s n t K nx) : t.opn.Nodup := h.srt.imp (fun {a b} h e => by subst e; omega)
def TS.enter (t : TS) (y : Nat) : TS := ⟨upd t.low y (t.met + 1), upd t.num y (t.met + 1), t.cls, y :: t.opn, t.met + 1, t.found⟩
theorem TI.enter (h : TI s n t K nx) {y : Nat} (hy : y < n) (h0 : t.num y = 0) {nx' : Nat → Nat} (hK : ∀ g ∈ K, TR s g y)
    (hE : ∀ x y', x ∈ K → y' ∈ (taus s x).take (nx' x) → y' = y ∨ y' ∈ (taus s x).take (nx x)) : TI s n (t.enter y) (y :: K) (upd nx' y 0) := by
  have hm := h.met_le
  have hyo : y ∉ t.opn := fun hh => h.pos y hh h0
  have ne : ∀ x ∈ t.opn, x ≠ y := fun x hx e => hyo (e ▸ hx)
  have neK : ∀ x ∈ K, x ≠ y := fun x hx => ne x (h.gin x hx)
  have nm : ∀ x ∈ t.opn, (t.enter y).num x = t.num x := fun x hx => upd_other _ _ (ne x hx)
  have nmK : ∀ x ∈ K, (t.enter y).num x = t.num x := fun x hx => nm x (h.gin x hx)
  have lw : ∀ x ∈ K, (t.enter y).low x = t.low x := fun x hx => upd_other _ _ (neK x hx)
  have nle : ∀ x ∈ t.opn, t.num x ≤ t.met := fun x hx => (h.num0 x (h.opn_lt x hx)).2
  have ny : (t.enter y).num y = t.met + 1 := upd_same _ _ _
  have nz : ∀ x, t.num x ≠ 0 → (t.enter y).num x = t.num x := fun x hx => upd_other _ _ (fun e => hx (e ▸ h0))
  have cl : ∀ x, (t.enter y).clo x ↔ t.clo x := by
    intro x
    have ho : (t.enter y).opn = y :: t.opn := rfl
    unfold TS.clo
    rw [ho, List.mem_cons]
    by_cases e : x = y
    · subst e; simp [h0]
    · rw [show (t.enter y).num x = t.num x from upd_other _ _ e]; simp [e]
  refine ⟨?_, ?_, ?_, ?_, ?_, ?_, ?_, ?_, ?_, ?_, ?_, ?_, ?_, ?_, ?_, ?_, h.found0⟩
  · intro x hx
    rcases List.mem_cons.1 hx with rfl | hx
    · exact hy
    · exact h.opn_lt x hx
  · intro x hx
    by_cases e : x = y
    · subst e; rw [ny]; show 0 ≤ t.met + 1 ∧ t.met + 1 ≤ t.met + 1; omega
    · rw [show (t.enter y).num x = t.num x from upd_other _ _ e]
      have := h.num0 x hx
      show 0 ≤ t.num x ∧ t.num x ≤ t.met + 1; omega
  · intro a b ha hb hab hne
    by_cases e1 : a = y <;> by_cases e2 : b = y
    · rw [e1, e2]
    · subst e1; rw [ny, show (t.enter a).num b = t.num b from upd_other _ _ e2] at hab
      have := h.num0 b hb; omega
    · subst e2; rw [ny, show (t.enter b).num a = t.num a from upd_other _ _ e1] at hab
      have := h.num0 a ha; omega
    · rw [show (t.enter y).num a = t.num a from upd_other _ _ e1] at hab hne
      rw [show (t.enter y).num b = t.num b from upd_other _ _ e2] at hab
      exact h.inj a b ha hb hab hne
  · intro x hx
    rcases List.mem_cons.1 hx with rfl | hx
    · rw [ny]; omega
    · rw [nm x hx]; exact h.pos x hx
  · show (y :: t.opn).Pairwise _
    rw [List.pairwise_cons]
    refine ⟨fun b hb => ?_, ?_⟩
    · rw [nm b hb, ny]; have := nle b hb; omega
    · exact List.Pairwise.imp_of_mem (fun {a b} ha hb hab => by rw [nm a ha, nm b hb]; exact hab) h.srt
  · intro g hg
    rcases List.mem_cons.1 hg with rfl | hg
    · exact List.mem_cons_self
    · exact List.mem_cons_of_mem _ (h.gin g hg)
  · rw [List.pairwise_cons]
    refine ⟨fun b hb => ?_, ?_⟩
    · rw [nmK b hb, ny]; have := nle b (h.gin b hb); omega
    · exact List.Pairwise.imp_of_mem (fun {a b} ha hb hab => by rw [nmK a ha, nmK b hb]; exact hab) h.gsrt
  · intro g hg x hx hle
    rcases List.mem_cons.1 hg with e1 | hg
    · rcases List.mem_cons.1 hx with e2 | hx
      · rw [e1, e2]; exact TR.refl
      · rw [e1, ny, nm x hx] at hle; have := nle x hx; omega
    · rcases List.mem_cons.1 hx with e2 | hx
      · rw [e2]; exact hK g hg
      · rw [nmK g hg, nm x hx] at hle; exact h.tree g hg x hx hle
  · intro x hx
    rcases List.mem_cons.1 hx with rfl | hx
    · exact ⟨x, List.mem_cons_self, Int.le_refl _, TR.refl⟩
    · obtain ⟨g, hg, h1, h2⟩ := h.back x hx
      exact ⟨g, List.mem_cons_of_mem _ hg, by rw [nmK g hg, nm x hx]; exact h1, h2⟩
  · intro g hg
    rcases List.mem_cons.1 hg with e1 | hg
    · rw [e1]; exact ⟨y, List.mem_cons_self, by rw [ny]; exact upd_same _ _ _, Int.le_refl _, TR.refl⟩
    · obtain ⟨z, hz, h1, h2, h3⟩ := h.low1 g hg
      exact ⟨z, List.mem_cons_of_mem _ hz, by rw [lw g hg, nm z hz]; exact h1, by rw [nm z hz, nmK g hg]; exact h2, h3⟩
  · intro x hx z hxz hE'
    rcases List.mem_cons.1 hx with rfl | hx
    · have := hE' List.mem_cons_self
      rw [upd_same, List.take_zero] at this
      simp at this
    · have hxy := ne x hx
      have hold : z = y ∨ (x ∈ K → z ∈ (taus s x).take (nx x)) := by
        by_cases hk : x ∈ K
        · have := hE' (List.mem_cons_of_mem _ hk)
          rw [upd_other _ _ hxy] at this
          rcases hE x z hk this with h1 | h1
          · exact .inl h1
          · exact .inr (fun _ => h1)
        · exact .inr (fun h => absurd h hk)
      have zone : ∀ g ∈ y :: K, (t.enter y).num g ≤ (t.enter y).num x → g ∈ K := by
        intro g hg hle
        rcases List.mem_cons.1 hg with e1 | hg
        · rw [e1, ny, nm x hx] at hle; have := nle x hx; omega
        · exact hg
      by_cases hzy : z = y
      · subst hzy
        refine ⟨by rw [ny]; omega, fun _ g hg hle _ => ?_⟩
        have hgK := zone g hg hle
        obtain ⟨w, hw, h1, h2, _⟩ := h.low1 g hgK
        rw [lw g hgK, ny, h1]
        have := nle g (h.gin g hgK); omega
      · have hold := hold.resolve_left hzy
        obtain ⟨h1, h2⟩ := h.expl x hx z hxz hold
        refine ⟨by rw [nz z h1]; exact h1, fun hzo g hg hle hdeep => ?_⟩
        have hzo' : z ∈ t.opn := by
          rcases List.mem_cons.1 hzo with e | e
          · exact absurd e hzy
          · exact e
        have hgK := zone g hg hle
        rw [lw g hgK, nz z h1]
        rw [nmK g hgK, nm x hx] at hle
        refine h2 hzo' g hgK hle (fun g' hg' hle' => ?_)
        have := hdeep g' (List.mem_cons_of_mem _ hg') (by rw [nmK g' hg', nm x hx]; exact hle')
        rw [nmK g' hg', nmK g hgK] at this
        exact this
  · intro x hx hc z hz
    have hc := (cl x).1 hc
    obtain ⟨h1, h2⟩ := h.clos x hx hc z hz
    exact ⟨(cl z).2 h1, h2⟩
  · intro x hx hc; exact h.cls0 x hx ((cl x).1 hc)
  · intro a b ha hb hca hcb; exact h.scc a b ha hb ((cl a).1 hca) ((cl b).1 hcb)
  · have := h.cnt; show t.found + ((y :: K).length : Int) ≤ t.met + 1; simp; omega
  · have := h.metc
    show t.met + 1 = _
    rw [cntB_set (p := fun x => decide (t.num x ≠ 0)) (q := fun x => decide ((t.enter y).num x ≠ 0)) (k := y) (by simp [h0]) (by rw [ny]; simp; omega)
      (fun i hi => by rw [show (t.enter y).num i = t.num i from upd_other _ _ hi]) n hy]
    omega
theorem TI.top {x : Nat} (h : TI s n t (x :: K) nx) : ∀ g ∈ x :: K, t.num g ≤ t.num x := by
  intro g hg
  rcases List.mem_cons.1 hg with rfl | hg
  · exact Int.le_refl _
  · have := (List.pairwise_cons.1 h.gsrt).1 g hg; omega
end
end Pl
end Go.Proofs.YtffjcehopoaboaaGreatDoor
namespace Go.Proofs.YtffjcehopoaboaaGreatDoor
namespace Pl
def pushL (out : List E) (e : E) : List E := if out.getLast? = some e then out else out ++ [e]
structure Mrg (a b out : List E) (i k : Nat) : Prop where
  srt : Srt ltE out
  mem : ∀ x, x ∈ out ↔ x ∈ a.take i ∨ x ∈ b.take k
  la : ∀ o ∈ out, ∀ x ∈ a.drop i, ltE x o = false
  lb : ∀ o ∈ out, ∀ x ∈ b.drop k, ltE x o = false
theorem Mrg.nil (a b : List E) : Mrg a b [] 0 0 := ⟨by simp [Srt], by simp, by simp, by simp⟩
theorem srt_pushL {out : List E} {e : E} (h : Srt ltE out) (he : ∀ o ∈ out, ltE e o = false) : Srt ltE (pushL out e) ∧ ∀ x, x ∈ pushL out e ↔ x ∈ out ∨ x = e := by
  unfold pushL
  by_cases hl : out.getLast? = some e
  · rw [if_pos hl]
    have hm : e ∈ out := List.mem_of_getLast? hl
    exact ⟨h, fun x => ⟨.inl, fun hx => by rcases hx with hx | rfl; exact hx; exact hm⟩⟩
  · rw [if_neg hl]
    refine ⟨?_, fun x => by simp⟩
    unfold Srt at *
    rw [List.pairwise_append]
    refine ⟨h, by simp, fun o ho x hx => ?_⟩
    simp at hx; subst hx
    -- o is the last, or ahead of the last
    obtain ⟨l, z, rfl⟩ : ∃ l z, out = l ++ [z] := by
      rcases List.eq_nil_or_concat out with rfl | ⟨l, z, hz⟩
      · simp at ho
      · exact ⟨l, z, by simpa using hz⟩
    have hz : z ≠ x := by rintro rfl; simp at hl
    have hzx : ltE z x = true := by
      rcases stoE.total z x with h1 | h1 | h1
      · exact h1
      · exact absurd h1 hz
      · rw [he z (by simp)] at h1; cases h1
    rcases List.mem_append.1 ho with h1 | h1
    · have := (List.pairwise_append.1 h).2.2 o h1 z (by simp)
      exact stoE.trans _ _ _ this hzx
    · simp at h1; subst h1; exact hzx
theorem asymE {a b : E} (h : ltE a b = true) : ltE b a = false := by
  rw [Bool.eq_false_iff]; intro h2
  have := stoE.trans _ _ _ h h2
  rw [stoE.irrefl] at this; cases this
theorem notBelow {b : List E} {k : Nat} {x e : E} (h : Srt ltE b) (hk : b[k]? = some x) (hx : ltE x e = false) : ∀ y ∈ b.drop k, ltE y e = false := by
  intro y hy
  obtain ⟨j, hj⟩ := List.getElem?_of_mem hy
  rw [List.getElem?_drop] at hj
  by_cases h0 : j = 0
  · subst h0; rw [Nat.add_zero, hk] at hj; cases hj; exact hx
  · obtain ⟨h1, e1⟩ := List.getElem?_eq_some_iff.1 hk
    obtain ⟨h2, e2⟩ := List.getElem?_eq_some_iff.1 hj
    have := List.pairwise_iff_getElem.1 h k (k + j) h1 h2 (by omega)
    rw [e1, e2] at this
    rw [Bool.eq_false_iff]; intro h3
    rw [stoE.trans _ _ _ this h3] at hx; cases hx
theorem Mrg.pushA {a b out : List E} {i k : Nat} {e : E} (h : Mrg a b out i k) (ha : Srt ltE a) (hi : a[i]? = some e) (hb : ∀ y ∈ b.drop k, ltE y e = false) : Mrg a b (pushL out e) (i + 1) k := by
  obtain ⟨hil, hie⟩ := List.getElem?_eq_some_iff.1 hi
  have hd : a.drop i = e :: a.drop (i + 1) := by rw [List.drop_eq_getElem_cons hil, hie]
  have hlo : ∀ o ∈ out, ltE e o = false := fun o ho => h.la o ho e (by rw [hd]; simp)
  obtain ⟨h1, h2⟩ := srt_pushL h.srt hlo
  refine ⟨h1, fun x => ?_, fun o ho x hx => ?_, fun o ho x hx => ?_⟩
  · rw [h2, h.mem, List.take_succ_eq_append_getElem hil, hie, List.mem_append, List.mem_singleton]
    constructor
    · rintro ((h | h) | h)
      · exact .inl (.inl h)
      · exact .inr h
      · exact .inl (.inr h)
    · rintro ((h | h) | h)
      · exact .inl (.inl h)
      · exact .inr h
      · exact .inl (.inr h)
  · rcases (h2 o).1 ho with h3 | rfl
    · exact h.la o h3 x (by rw [hd]; simp [hx])
    · have hs : Srt ltE (a.drop i) := List.Pairwise.drop ha
      rw [hd] at hs
      exact asymE ((List.pairwise_cons.1 hs).1 x hx)
  · rcases (h2 o).1 ho with h3 | rfl
    · exact h.lb o h3 x hx
    · exact hb x hx
theorem Mrg.swap {a b out : List E} {i k : Nat} (h : Mrg a b out i k) : Mrg b a out k i := ⟨h.srt, fun x => by rw [h.mem]; exact Or.comm, h.lb, h.la⟩
theorem Mrg.pushB {a b out : List E} {i k : Nat} {e : E} (h : Mrg a b out i k) (hb : Srt ltE b) (hi : b[k]? = some e) (ha : ∀ y ∈ a.drop i, ltE y e = false) : Mrg a b (pushL out e) i (k + 1) :=
  (h.swap.pushA hb hi ha).swap
theorem Mrg.done {a b out l : List E} (h : Mrg a b out a.length b.length) (hm : ∀ x, x ∈ l ↔ x ∈ a ∨ x ∈ b) : out = nf ltE l :=
  eq_nf stoE h.srt (fun x => by rw [h.mem, List.take_length, List.take_length, hm])
theorem Mrg.len {out : List E} {e : E} : (pushL out e).length ≤ out.length + 1 := by
  unfold pushL; split <;> simp
theorem half_mem (l : List E) (m : Nat) (x : E) : x ∈ l ↔ x ∈ nf ltE (l.take m) ∨ x ∈ nf ltE (l.drop m) := by
  rw [mem_nf stoE, mem_nf stoE, ← List.mem_append, List.take_append_drop]
theorem nf_short {l : List E} (h : l.length < 2) : nf ltE l = l := by
  match l, h with
  | [], _ => rfl
  | [x], _ => rfl
  | _ :: _ :: _, h => simp at h; omega
end Pl
end Go.Proofs.YtffjcehopoaboaaGreatDoor
namespace Go.Proofs.YtffjcehopoaboaaGreatDoor
namespace Pl
def ltI (a b : Int) : Bool := decide (a < b)
def Rch (s : Lts) (x : Int) : Prop := ∀ P : Int → Prop, P s.s0 → (∀ a l b, P a → (a, l, b) ∈ s.es → P b) → P x
theorem Rch.start (s : Lts) : Rch s s.s0 := fun _ h _ => h
theorem Rch.step {s : Lts} {a l b : Int} (h : Rch s a) (he : (a, l, b) ∈ s.es) : Rch s b := fun P h0 h1 => h1 a l b (h P h0 h1) he
theorem nodup_len {L : List Int} {n : Nat} (h : L.Nodup) (hr : ∀ x ∈ L, 0 ≤ x ∧ x < (n : Int)) : L.length ≤ n := by
  have : L ⊆ (List.range n).map Int.ofNat := by
    intro x hx
    have := hr x hx
    rw [List.mem_map]
    exact ⟨x.toNat, by rw [List.mem_range]; omega, by simp; omega⟩
  have := List.Nodup.length_le_of_subset h this
  simpa using this
structure Bfs (s : Lts) (L : List Int) (i : Nat) : Prop where
  nd : L.Nodup
  rng : ∀ x ∈ L, 0 ≤ x ∧ x < s.st
  rch : ∀ x ∈ L, Rch s x
  s0 : s.s0 ∈ L
  done : ∀ k x, k < i → L[k]? = some x → ∀ y ∈ s.outs x, y.2 ∈ L
theorem Bfs.start {s : Lts} (h : s.Right) (h0 : s.st ≠ 0) : Bfs s [s.s0] 0 where
  nd := by simp
  rng x hx := by have := h.st0; simp at hx; subst hx; omega
  rch x hx := by simp at hx; subst hx; exact Rch.start s
  s0 := by simp
  done k x hk := by omega
theorem Bfs.len {s : Lts} {L : List Int} {i : Nat} (h : Bfs s L i) : L.length ≤ s.st.toNat :=
  nodup_len h.nd (fun x hx => by have := h.rng x hx; omega)
theorem Bfs.push {s : Lts} (hr : s.Right) {L : List Int} {i : Nat} {x : Int} {y : S} (h : Bfs s L i) (hx : L[i]? = some x) (hy : y ∈ s.outs x) (hn : y.2 ∉ L) : Bfs s (L ++ [y.2]) i where
  nd := by rw [List.nodup_append]; exact ⟨h.nd, by simp, by intro a ha b hb; simp at hb; subst hb; intro e; subst e; exact hn ha⟩
  rng z hz := by
    rcases List.mem_append.1 hz with h1 | h1
    · exact h.rng z h1
    · simp at h1; subst h1
      have := offB_false.1 (hr.edges _ (mem_outs.1 hy))
      exact ⟨this.2.2.2.2.1, this.2.2.2.2.2⟩
  rch z hz := by
    rcases List.mem_append.1 hz with h1 | h1
    · exact h.rch z h1
    · simp at h1; subst h1; exact (h.rch x (List.mem_of_getElem? hx)).step (mem_outs.1 hy)
  s0 := List.mem_append_left _ h.s0
  done k z hk hz w hw := by
    have hlt : k < L.length := by have := (List.getElem?_eq_some_iff.1 hx).1; omega
    rw [List.getElem?_append_left hlt] at hz
    exact List.mem_append_left _ (h.done k z hk hz w hw)
theorem Bfs.next {s : Lts} {L : List Int} {i : Nat} {x : Int} (h : Bfs s L i) (hx : L[i]? = some x) (ha : ∀ y ∈ s.outs x, y.2 ∈ L) : Bfs s L (i + 1) where
  nd := h.nd
  rng := h.rng
  rch := h.rch
  s0 := h.s0
  done k z hk hz := by
    by_cases hki : k = i
    · subst hki; rw [hx] at hz; simp at hz; subst hz; exact ha
    · exact h.done k z (by omega) hz
theorem Bfs.all {s : Lts} {L : List Int} (h : Bfs s L L.length) (x : Int) : x ∈ L ↔ Rch s x := by
  refine ⟨h.rch x, fun hr => hr (· ∈ L) h.s0 ?_⟩
  intro a l b ha he
  obtain ⟨k, hk, rfl⟩ := List.getElem_of_mem ha
  exact h.done k _ hk (List.getElem?_eq_getElem hk) (l, b) (mem_outs.2 he)
open Classical in
noncomputable def reachL (s : Lts) : List Int := ((List.range s.st.toNat).map Int.ofNat).filter (fun x => decide (Rch s x))
theorem Rch.rng {s : Lts} (h : s.Right) (h0 : s.st ≠ 0) {x : Int} (hx : Rch s x) : 0 ≤ x ∧ x < s.st := by
  have := h.st0
  refine hx (fun x => 0 ≤ x ∧ x < s.st) (by omega) ?_
  intro a l b _ he
  have := offB_false.1 (h.edges _ he)
  exact ⟨this.2.2.2.2.1, this.2.2.2.2.2⟩
theorem mem_reachL {s : Lts} (h : s.Right) (h0 : s.st ≠ 0) {x : Int} : x ∈ reachL s ↔ Rch s x := by
  unfold reachL
  simp only [List.mem_filter, List.mem_map, List.mem_range, decide_eq_true_eq]
  constructor
  · rintro ⟨_, h⟩; exact h
  · intro hx
    have := hx.rng h h0
    exact ⟨⟨x.toNat, by omega, by simp; omega⟩, hx⟩
end Pl
end Go.Proofs.YtffjcehopoaboaaGreatDoor
namespace Go.Proofs.YtffjcehopoaboaaGreatDoor
namespace Pl
def cnt (L : List Int) (k : Int) : Nat := (L.filter (fun x => decide (x < k))).length
theorem idx_get : ∀ {L : List Int}, L.Nodup → ∀ {i : Nat} {x : Int}, L[i]? = some x → L.idxOf x = i
  | [], _, i, x, h => by simp at h
  | y :: L, hn, 0, x, h => by simp at h; subst h; simp
  | y :: L, hn, i + 1, x, h => by
    have hy := List.nodup_cons.1 hn
    have hx : L[i]? = some x := by simpa using h
    have hb : (y == x) = false := by
      simp; rintro rfl; exact hy.1 (List.mem_of_getElem? hx)
    rw [List.idxOf_cons, hb, idx_get hy.2 hx]; rfl
noncomputable def toOf (s : Lts) (x : Int) : Int := if x ∈ reachL s then ((reachL s).idxOf x : Int) else -1
noncomputable def toL (s : Lts) : List Int := (List.range s.st.toNat).map (fun (i : Nat) => toOf s (i : Int))
noncomputable def cutE (s : Lts) : List E := (s.es.filter (fun x => decide (0 ≤ toOf s x.1))).map (fun x => (toOf s x.1, x.2.1, toOf s x.2.2))
noncomputable def cut (s : Lts) : Lts := ⟨(reachL s).length, s.lb, if (reachL s).length = 0 then 0 else toOf s s.s0, cutE s⟩
end Pl
end Go.Proofs.YtffjcehopoaboaaGreatDoor

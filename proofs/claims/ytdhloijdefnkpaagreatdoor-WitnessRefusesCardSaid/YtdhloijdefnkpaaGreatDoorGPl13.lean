/-
  Lemmas.
-/
import Derived.Test.YtdhloijdefnkpaaGreatDoorGPl1
import Derived.Lib.TrailingZeros
import Derived.Test.YtdhloijdefnkpaaGreatDoorChecked
import Derived.WalkKit
import Derived.WalkSpells
import Derived.WalkLawsBesides
import Derived.Lib.Hide
import Derived.Deep.OwnRows
import Derived.Deep.AppendLies
import Derived.Outline
import Derived.LaidEql
import Derived.Stop.Asserts
import Derived.RowKitTokens
import Derived.Deep.QuietTactic
import Derived.BigQuiet
namespace Go.Proofs.YtdhloijdefnkpaaGreatDoor
namespace Pl
def tauOf (s : Lts) (q : Int) : Lts := ⟨s.st, s.lb, q, s.es.filter (fun x => x.2.1 == 0)⟩
theorem tauOf_right {s : Lts} (h : s.Right) {q : Int} (h0 : 0 ≤ q) (h1 : q < s.st) : (tauOf s q).Right := by
  have hr := h.st0
  refine ⟨?_, fun x hx => h.edges x (List.mem_filter.1 hx).1⟩
  unfold HeadBad tauOf
  have := List.length_filter_le (fun x : E => x.2.1 == 0) s.es
  simp only
  omega
theorem mem_tauOf {s : Lts} {q x : Int} {y : S} : y ∈ (tauOf s q).outs x ↔ y ∈ s.outs x ∧ y.1 = 0 := by
  rw [mem_outs, mem_outs]
  unfold tauOf
  simp
end Pl
end Go.Proofs.YtdhloijdefnkpaaGreatDoor
namespace Go.Proofs.YtdhloijdefnkpaaGreatDoor
namespace Pl
def wd (f : Nat → Bool) : Nat → Nat
  | 0 => 0
  | n + 1 => wd f n ||| (if f n then 2 ^ n else 0)
theorem wd_lt (f : Nat → Bool) : ∀ n, wd f n < 2 ^ n
  | 0 => by simp [wd]
  | n + 1 => by
    have h1 := wd_lt f n
    have h2 : 2 ^ n < 2 ^ (n + 1) := by rw [Nat.pow_succ]; have := Nat.two_pow_pos n; omega
    unfold wd
    refine Nat.or_lt_two_pow (by omega) ?_
    split
    · exact h2
    · exact Nat.two_pow_pos _
theorem wd_bit (f : Nat → Bool) : ∀ n k, (wd f n).testBit k = (decide (k < n) && f k)
  | 0, k => by simp [wd]
  | n + 1, k => by
    unfold wd
    rw [Nat.testBit_or, wd_bit f n k]
    by_cases hf : f n = true
    · rw [if_pos hf, Nat.testBit_two_pow]
      by_cases e : n = k
      · subst e; simp [hf]
      · by_cases h : k < n
        · simp [h, e, show k < n + 1 by omega]
        · simp [h, e, show ¬ k < n + 1 by omega]
    · rw [if_neg hf, Nat.zero_testBit, Bool.or_false]
      by_cases e : n = k
      · subst e; simp at hf; simp [hf]
      · by_cases h : k < n
        · simp [h, show k < n + 1 by omega]
        · simp [h, show ¬ k < n + 1 by omega]
def wj (F : Nat → Bool) (j : Nat) : Nat := wd (fun k => F (64 * j + k)) 64
theorem wj_lt (F : Nat → Bool) (j : Nat) : wj F j < 18446744073709551616 := wd_lt _ 64
theorem wj_bit (F : Nat → Bool) (j k : Nat) : (wj F j).testBit k = (decide (k < 64) && F (64 * j + k)) := wd_bit _ 64 k
theorem wj_ext {F G : Nat → Bool} {j : Nat} (h : ∀ k, k < 64 → F (64 * j + k) = G (64 * j + k)) : wj F j = wj G j := by
  refine Nat.eq_of_testBit_eq (fun k => ?_)
  rw [wj_bit, wj_bit]
  by_cases hk : k < 64
  · rw [h k hk]
  · simp [hk]
theorem wj_none (j : Nat) : wj (fun _ => false) j = 0 := by
  refine Nat.eq_of_testBit_eq (fun k => ?_)
  rw [wj_bit, Nat.zero_testBit]; simp
def putF (F : Nat → Bool) (i : Nat) (x : Nat) : Bool := F x || decide (x = i)
def dropF (F : Nat → Bool) (i : Nat) (x : Nat) : Bool := F x && !decide (x = i)
theorem wj_put (F : Nat → Bool) (i : Nat) : wj F (i / 64) ||| 2 ^ (i % 64) = wj (putF F i) (i / 64) := by
  refine Nat.eq_of_testBit_eq (fun k => ?_)
  rw [Nat.testBit_or, wj_bit, wj_bit, Nat.testBit_two_pow]
  unfold putF
  by_cases hk : k < 64
  · have : decide (i % 64 = k) = decide (64 * (i / 64) + k = i) := by
      by_cases e : i % 64 = k
      · have : 64 * (i / 64) + k = i := by omega
        simp [e, this]
      · have : ¬ 64 * (i / 64) + k = i := by omega
        simp [e, this]
    rw [this]; simp [hk]
  · have : ¬ i % 64 = k := by omega
    simp [hk, this]
theorem wj_put_ne (F : Nat → Bool) {i j : Nat} (h : j ≠ i / 64) : wj (putF F i) j = wj F j :=
  wj_ext (fun k hk => by unfold putF; have : ¬ 64 * j + k = i := by omega
                         simp [this])
theorem low_bit {x : Nat} (h0 : x ≠ 0) (hx : x < 18446744073709551616) : Lib.ctz 64 x < 64 ∧ x.testBit (Lib.ctz 64 x) = true ∧ (∀ k, k < Lib.ctz 64 x → x.testBit k = false) ∧ ∀ k, (x &&& (x - 1)).testBit k = (x.testBit k && !decide (k = Lib.ctz 64 x)) := by
  obtain ⟨m, hm, hk⟩ := Lib.ctzFrom_spec 64 x (by omega) hx
  have e : Lib.ctz 64 x = Lib.ctzFrom 64 x := by simp [Lib.ctz, h0]
  rw [e]
  obtain ⟨t, ht⟩ : ∃ t, t = Lib.ctzFrom 64 x := ⟨_, rfl⟩
  rw [← ht] at hm hk ⊢
  have hp := Nat.two_pow_pos t
  have h2 : 2 ^ (t + 1) = 2 ^ t + 2 ^ t := by rw [Nat.pow_succ]; omega
  have e1 : x = 2 ^ (t + 1) * m + 2 ^ t := by
    have h3 : 2 ^ (t + 1) * m = 2 ^ t * (2 * m) := by rw [Nat.pow_succ, Nat.mul_assoc]
    rw [h3, hm, Nat.mul_add, Nat.mul_one]
  have b1 : ∀ k, x.testBit k = if k < t + 1 then decide (t = k) else m.testBit (k - (t + 1)) := fun k => by
    rw [e1, Nat.testBit_two_pow_mul_add m (by omega) k, Nat.testBit_two_pow]
  have e2 : x - 1 = 2 ^ (t + 1) * m + (2 ^ t - 1) := by omega
  have b2 : ∀ k, (x - 1).testBit k = if k < t + 1 then decide (k < t) else m.testBit (k - (t + 1)) := fun k => by
    rw [e2, Nat.testBit_two_pow_mul_add m (by omega) k, Nat.testBit_two_pow_sub_one]
  refine ⟨hk, by rw [b1, if_pos (by omega)]; simp, fun k h => by rw [b1, if_pos (by omega)]; simp; omega, fun k => ?_⟩
  rw [Nat.testBit_and, b1, b2]
  by_cases h : k < t + 1
  · rw [if_pos h, if_pos h]
    by_cases e : k = t
    · subst e; simp
    · have : ¬ t = k := fun h => e h.symm
      simp [this]
  · rw [if_neg h, if_neg h]
    have : ¬ k = t := by omega
    simp [this]
def idsN (F : Nat → Bool) (m : Nat) : List Nat := (List.range m).filter F
theorem idsN_le (F : Nat → Bool) (m : Nat) : (idsN F m).length ≤ m := by
  unfold idsN
  have := List.length_filter_le F (List.range m)
  simpa using this
theorem idsN_gap {F : Nat → Bool} {m : Nat} : ∀ d, (∀ k, k < d → F (m + k) = false) → idsN F (m + d) = idsN F m
  | 0, _ => rfl
  | d + 1, h => by
    have ih := idsN_gap d (fun k hk => h k (by omega))
    unfold idsN at *
    rw [← Nat.add_assoc, List.range_succ, List.filter_append, ih]
    simp [h d (by omega)]
theorem idsN_hit {F : Nat → Bool} {m : Nat} (h : F m = true) : idsN F (m + 1) = idsN F m ++ [m] := by
  unfold idsN
  rw [List.range_succ, List.filter_append]
  simp [h]
theorem mem_idsN {F : Nat → Bool} {m x : Nat} : x ∈ idsN F m ↔ x < m ∧ F x = true := by
  unfold idsN; simp
theorem idsN_step {F : Nat → Bool} {j t x : Nat} (_ht : t ≤ 64) (hx : x < 18446744073709551616) (hb : ∀ k, x.testBit k = (decide (t ≤ k ∧ k < 64) && F (64 * j + k))) (h0 : x ≠ 0) :
    Lib.ctz 64 x < 64 ∧ t ≤ Lib.ctz 64 x ∧ idsN F (64 * j + (Lib.ctz 64 x + 1)) = idsN F (64 * j + t) ++ [64 * j + Lib.ctz 64 x] ∧ (∀ k, (x &&& (x - 1)).testBit k = (decide (Lib.ctz 64 x + 1 ≤ k ∧ k < 64) && F (64 * j + k))) := by
  obtain ⟨h1, h2, h3, h4⟩ := low_bit h0 hx
  obtain ⟨c, hc⟩ : ∃ c, c = Lib.ctz 64 x := ⟨_, rfl⟩
  rw [← hc] at h1 h2 h3 h4 ⊢
  rw [hb] at h2
  simp at h2
  refine ⟨h1, h2.1.1, ?_, fun k => ?_⟩
  · have hg : idsN F (64 * j + c) = idsN F (64 * j + t) := by
      have := idsN_gap (F := F) (m := 64 * j + t) (c - t) (fun k hk => by
        have h5 := h3 (t + k) (by omega)
        rw [hb] at h5
        simp at h5
        have := h5 (by omega)
        rw [Nat.add_assoc]; exact this)
      rw [show 64 * j + c = 64 * j + t + (c - t) by omega]; exact this
    rw [← Nat.add_assoc, idsN_hit h2.2, hg]
  · rw [h4, hb]
    by_cases e : k = c
    · subst e
      have : ¬ (k + 1 ≤ k ∧ k < 64) := by omega
      simp only [this, decide_false, Bool.false_and]; simp
    · by_cases hk : k < c
      · have h5 := h3 k hk
        rw [hb] at h5
        have : ¬ (c + 1 ≤ k ∧ k < 64) := by omega
        rw [h5]; simp [this]
      · by_cases h6 : k < 64
        · have e1 : t ≤ k ∧ k < 64 := by omega
          have e2 : c + 1 ≤ k ∧ k < 64 := by omega
          simp [e, e1, e2]
        · have e1 : ¬ (t ≤ k ∧ k < 64) := by omega
          have e2 : ¬ (c + 1 ≤ k ∧ k < 64) := by omega
          simp [e1, e2]
theorem idsN_end {F : Nat → Bool} {j t : Nat} (ht : t ≤ 64) (hb : ∀ k, (0 : Nat).testBit k = (decide (t ≤ k ∧ k < 64) && F (64 * j + k))) : idsN F (64 * (j + 1)) = idsN F (64 * j + t) := by
  rw [show 64 * (j + 1) = 64 * j + t + (64 - t) by omega]
  refine idsN_gap _ (fun k hk => ?_)
  have h5 := hb (t + k)
  rw [Nat.zero_testBit] at h5
  have e1 : t ≤ t + k ∧ t + k < 64 := by omega
  simp only [e1, decide_true, and_self, Bool.true_and] at h5
  rw [Nat.add_assoc]; exact h5.symm
end Pl
end Go.Proofs.YtdhloijdefnkpaaGreatDoor
namespace Go.Proofs.YtdhloijdefnkpaaGreatDoor
open Go.RowKit
structure IsRow (P : Program) (t e : TypeId) (size bytes : Nat) (z : Value) : Prop where
  ht : P.underlying t = some (.slice e)
  info : ∃ i, P.info? e = some i ∧ i.zero = some z ∧ i.size = size ∧ i.bytes = bytes
  zs : z.cells.size = size
  pos : 0 < size
theorem isRow_of {P : Program} {t e : TypeId} {size bytes : Nat} {z : Value} (ht : P.underlying t = some (.slice e))
    (h : (P.info? e).map (fun i => (i.zero, i.size, i.bytes)) = some (some z, size, bytes)) (zs : z.cells.size = size) (pos : 0 < size) : IsRow P t e size bytes z :=
  ⟨ht, by obtain ⟨i, a, b, c, d⟩ := info_parts h; exact ⟨i, a, b, c, d⟩, zs, pos⟩
theorem wpList_app {P : Program} {w : World} {ops : Array Oper} {rest : List Oper} {o : Oper} {a : Act} {Q : Exit → Act → World → Prop} (hgd : o.guard = none) (s x : Operand) (t : TypeId)
    (ho : o.op = .call { callee := .builtin .append, args := #[s, x], argTypes := #[t, t] })
    {e : TypeId} {size bytes : Nat} {z : Value} (R : IsRow P t e size bytes z) {base : Nat} {w0 : World} (hB : Below base w0 w) (hb0 : base ≤ w.heap.size)
    {v : Value} {n : Nat} {xs : List Value} (hs : a.eval s = v) (hown : w.ownsRow base e size v n xs)
    (ad : Addr) (m c : Nat) (news : List Value) (hx : a.eval x = .slice (some ad) m c) (hl : news.length = m * size) (hnews : ∀ j u, news[j]? = some u → w.cell? (ad.add j) = some u) (h1 : ∀ u ∈ news, u.oneCell' = true)
    (hbytes : (n + m) * bytes ≤ 140737488355328) (hmax : n + m ≤ maxLen)
    (h : ∀ v' w', w'.ownsRow base e size v' (n + m) (xs ++ news) → Below base w0 w' → w.grownBy w' v.ownBlock → wpList P ops Q rest (a.put o.dst v') w') : wpList P ops Q (o :: rest) a w := by
  obtain ⟨i, hi, hz, hsz, hby⟩ := R.info
  refine wpList_append_own w hgd s x t ho base e i z size bytes R.ht hi hz hsz hby R.zs R.pos v n xs hs hown ad m c news hx hl hnews h1 hmax hbytes hb0 ?_
  intro v' w' h1 h2 _
  exact h v' w' h1 (hB.grown h2 hb0 (fun k hk => (hown.lt k hk).1)) h2
theorem step_app {P : Program} {w : World} {ops : Array Oper} {o : Oper} {a : Act} {K : Act → World → Prop} {Q : Exit → Act → World → Prop} {E : Prop} (hgd : o.guard = none) (s x : Operand) (t : TypeId)
    (ho : o.op = .call { callee := .builtin .append, args := #[s, x], argTypes := #[t, t] })
    {e : TypeId} {size bytes : Nat} {z : Value} (R : IsRow P t e size bytes z) {base : Nat}
    {v : Value} {n : Nat} {xs : List Value} (hs : a.eval s = v) (hown : w.ownsRow base e size v n xs)
    (ad : Addr) (m c : Nat) (news : List Value) (hx : a.eval x = .slice (some ad) m c) (hl : news.length = m * size) (hnews : ∀ j u, news[j]? = some u → w.cell? (ad.add j) = some u) (h1 : ∀ u ∈ news, u.oneCell' = true)
    (hbytes : (n + m) * bytes ≤ 140737488355328) (hmax : n + m ≤ maxLen) (hbase : base ≤ w.heap.size)
    (h : ∀ v' w', w'.ownsRow base e size v' (n + m) (xs ++ news) → w.grownBy w' v.ownBlock → K (a.put o.dst v') w') :
    if Region.wanted o (yielded ops a.tmps) = true then Oper.wp P o a w K Q else E := by
  have hw : Region.wanted o (yielded ops a.tmps) = true := by simp [Region.wanted, hgd]
  rw [if_pos hw]
  obtain ⟨i, hi, hz, hsz, hby⟩ := R.info
  exact wp_append_own w s x t ho base e i z size bytes R.ht hi hz hsz hby R.zs R.pos v n xs hs hown ad m c news hx hl hnews h1 hmax hbytes hbase (fun v' w' h1 h2 _ => h v' w' h1 h2)
theorem step_app1 {P : Program} {w : World} {ops : Array Oper} {o : Oper} {a : Act} {K : Act → World → Prop} {Q : Exit → Act → World → Prop} {E : Prop} (hgd : o.guard = none) (s x : Operand) (t : TypeId)
    (ho : o.op = .call { callee := .builtin .append, args := #[s, x], argTypes := #[t, t] })
    {e : TypeId} {size bytes : Nat} {z : Value} (R : IsRow P t e size bytes z) {base : Nat}
    {v : Value} {n : Nat} {xs : List Value} (hs : a.eval s = v) (hown : w.ownsRow base e size v n xs)
    (ad : Addr) (m c : Nat) (news : List Value) (hx : a.eval x = .slice (some ad) m c) (hl : news.length = m * size) (hnews : ∀ j u, news[j]? = some u → w.cell? (ad.add j) = some u) (h1 : ∀ u ∈ news, u.oneCell' = true) (hm : 0 < m)
    (hbytes : (n + m) * bytes ≤ 140737488355328) (hmax : n + m ≤ maxLen) (hbase : base ≤ w.heap.size)
    (h : ∀ g cap w', w'.ownsRow base e size (.slice (some ⟨g, 0, none⟩) (n + m) cap) (n + m) (xs ++ news) → w.grownBy w' v.ownBlock → K (a.put o.dst (.slice (some ⟨g, 0, none⟩) (n + m) cap)) w') :
    if Region.wanted o (yielded ops a.tmps) = true then Oper.wp P o a w K Q else E := by
  refine step_app hgd s x t ho R hs hown ad m c news hx hl hnews h1 hbytes hmax hbase (fun v' w' h2 h3 => ?_)
  obtain ⟨g, cap, rfl, _⟩ := h2.form (by omega)
  exact h g cap w' h2 h3
theorem wpList_app1 {P : Program} {w : World} {ops : Array Oper} {rest : List Oper} {o : Oper} {a : Act} {Q : Exit → Act → World → Prop} (hgd : o.guard = none) (s x : Operand) (t : TypeId)
    (ho : o.op = .call { callee := .builtin .append, args := #[s, x], argTypes := #[t, t] })
    {e : TypeId} {size bytes : Nat} {z : Value} (R : IsRow P t e size bytes z) {base : Nat} {w0 : World} (hB : Below base w0 w) (hb0 : base ≤ w.heap.size)
    {v : Value} {n : Nat} {xs : List Value} (hs : a.eval s = v) (hown : w.ownsRow base e size v n xs)
    (ad : Addr) (m c : Nat) (news : List Value) (hx : a.eval x = .slice (some ad) m c) (hl : news.length = m * size) (hnews : ∀ j u, news[j]? = some u → w.cell? (ad.add j) = some u) (h1 : ∀ u ∈ news, u.oneCell' = true) (hm : 0 < m)
    (hbytes : (n + m) * bytes ≤ 140737488355328) (hmax : n + m ≤ maxLen)
    (h : ∀ g cap w', w'.ownsRow base e size (.slice (some ⟨g, 0, none⟩) (n + m) cap) (n + m) (xs ++ news) → Below base w0 w' → w.grownBy w' v.ownBlock → wpList P ops Q rest (a.put o.dst (.slice (some ⟨g, 0, none⟩) (n + m) cap)) w') : wpList P ops Q (o :: rest) a w := by
  refine wpList_app hgd s x t ho R hB hb0 hs hown ad m c news hx hl hnews h1 hbytes hmax (fun v' w' h2 h3 h4 => ?_)
  obtain ⟨g, cap, rfl, _⟩ := h2.form (by omega)
  exact h g cap w' h2 h3 h4
theorem cells1 {w : World} {b : Nat} {u0 : Value} (h : w.cell? ⟨b, 0, none⟩ = some u0) : ∀ j u, [u0][j]? = some u → w.cell? ((⟨b, 0, none⟩ : Addr).add j) = some u := by
  intro j u hj
  match j, hj with
  | 0, hj => simp at hj; subst hj; simpa [Addr.add] using h
theorem cells2 {w : World} {b : Nat} {u0 u1 : Value} (h : w.cell? ⟨b, 0, none⟩ = some u0) (h1 : w.cell? ⟨b, 1, none⟩ = some u1) : ∀ j u, [u0, u1][j]? = some u → w.cell? ((⟨b, 0, none⟩ : Addr).add j) = some u := by
  intro j u hj
  match j, hj with
  | 0, hj => simp at hj; subst hj; simpa [Addr.add] using h
  | 1, hj => simp at hj; subst hj; simpa [Addr.add] using h1
theorem cells3 {w : World} {b : Nat} {u0 u1 u2 : Value} (h : w.cell? ⟨b, 0, none⟩ = some u0) (h1 : w.cell? ⟨b, 1, none⟩ = some u1) (h2 : w.cell? ⟨b, 2, none⟩ = some u2) : ∀ j u, [u0, u1, u2][j]? = some u → w.cell? ((⟨b, 0, none⟩ : Addr).add j) = some u := by
  intro j u hj
  match j, hj with
  | 0, hj => simp at hj; subst hj; simpa [Addr.add] using h
  | 1, hj => simp at hj; subst hj; simpa [Addr.add] using h1
  | 2, hj => simp at hj; subst hj; simpa [Addr.add] using h2
end Go.Proofs.YtdhloijdefnkpaaGreatDoor
namespace Go.Proofs.YtdhloijdefnkpaaGreatDoor
open Go.RowKit Pl
def encI (x : Int) : List Value := [.int .i64 x]
def encB (x : Bool) : List Value := [.bool x]
def encS (x : S) : List Value := [.int .i64 x.1, .int .i64 x.2]
def encE (x : E) : List Value := [.int .i64 x.1, .int .i64 x.2.1, .int .i64 x.2.2]
def encV (x : Value) : List Value := [x]
theorem rowI : IsRow Tryz.prog 33 3 1 8 (.int .i64 0) := isRow_of Tryz.underlying33 (by kernel_rfl) rfl (by decide)
theorem rowS : IsRow Tryz.prog 104 107 2 16 (.agg #[.int .i64 0, .int .i64 0]) := isRow_of Tryz.underlying104 (by kernel_rfl) rfl (by decide)
theorem rowE : IsRow Tryz.prog 22 35 3 24 (.agg #[.int .i64 0, .int .i64 0, .int .i64 0]) := isRow_of Tryz.underlying22 (by kernel_rfl) rfl (by decide)
theorem rowB : IsRow Tryz.prog 32 4 1 1 (.bool false) := isRow_of Tryz.underlying32 (by kernel_rfl) rfl (by decide)
section
variable {α : Type} {enc : α → List Value} {k : Nat} {w w' : World} {a : Option Addr} {b off : Nat} {xs : List α}
structure SlAt (enc : α → List Value) (k : Nat) (w : World) (a : Option Addr) (b off : Nat) (xs : List α) : Prop where
  ad : 0 < xs.length → a = some ⟨b, off, none⟩
  lt : 0 < xs.length → b < w.heap.size
  cell : ∀ i x, xs[i]? = some x → ∀ j u, (enc x)[j]? = some u → w.cell? ⟨b, off + i * k + j, none⟩ = some u
theorem SlAt.below {B : Nat} (h : SlAt enc k w a b off xs) (hB : Below B w w') (hle : w.heap.size ≤ B) : SlAt enc k w' a b off xs :=
  ⟨h.ad, fun hl => Nat.lt_of_lt_of_le (h.lt hl) hB.size, fun i x hx j u hu => by
    have hl : 0 < xs.length := by have := (List.getElem?_eq_some_iff.1 hx).1; omega
    rw [hB.cell (p := ⟨b, off + i * k + j, none⟩) (Nat.lt_of_lt_of_le (h.lt hl) hle)]
    exact h.cell i x hx j u hu⟩
theorem slAt_nil (w : World) (a : Option Addr) (b off : Nat) : SlAt enc k w a b off [] := ⟨by simp, by simp, by simp⟩
theorem getElem?_flatMap (hk : ∀ x, (enc x).length = k) : ∀ (xs : List α) (i : Nat) (x : α), xs[i]? = some x → ∀ j u, (enc x)[j]? = some u → (xs.flatMap enc)[i * k + j]? = some u
  | [], i, x, h, _, _, _ => by simp at h
  | y :: xs, 0, x, h, j, u, hu => by
    simp at h; subst h
    rw [List.flatMap_cons, Nat.zero_mul, Nat.zero_add, List.getElem?_append_left (List.getElem?_eq_some_iff.1 hu).1]
    exact hu
  | y :: xs, i + 1, x, h, j, u, hu => by
    rw [List.flatMap_cons, List.getElem?_append_right (by rw [hk, Nat.add_mul]; omega), hk]
    rw [show (i + 1) * k + j - k = i * k + j by rw [Nat.add_mul]; omega]
    exact getElem?_flatMap hk xs i x (by simpa using h) j u hu
theorem length_flatMap (hk : ∀ x, (enc x).length = k) : ∀ xs : List α, (xs.flatMap enc).length = xs.length * k
  | [] => by simp
  | y :: xs => by rw [List.flatMap_cons, List.length_append, hk, length_flatMap hk xs, List.length_cons, Nat.add_mul]; omega
theorem slAt_own {base : Nat} {e : TypeId} {v : Value} (hk : ∀ x, (enc x).length = k) (h : w.ownsRow base e k v xs.length (xs.flatMap enc)) :
    ∃ a c b, v = .slice a xs.length c ∧ xs.length ≤ c ∧ c ≤ maxLen ∧ SlAt enc k w a b 0 xs ∧ (0 < xs.length → base ≤ b) := by
  rcases h.2 with ⟨rfl, hn⟩ | ⟨g, cap, cur, rfl, hbg, hg, hnc, hcm, hcs, htake⟩
  · have : xs = [] := List.eq_nil_of_length_eq_zero hn
    subst this
    exact ⟨none, 0, 0, rfl, Nat.le_refl _, by unfold maxLen; omega, slAt_nil _ _ _ _, by simp⟩
  · refine ⟨some ⟨g, 0, none⟩, cap, g, rfl, hnc, hcm, ⟨fun _ => rfl, fun _ => (Array.getElem?_eq_some_iff.1 hg).1, fun i x hx j u hu => ?_⟩, fun _ => hbg⟩
    rw [cell_of_row w g _ cur e (0, 0) hg]
    have h1 := getElem?_flatMap hk xs i x hx j u hu
    rw [← htake, List.getElem?_take] at h1
    split at h1
    · simpa using h1
    · cases h1
end
theorem lenI (x : Int) : (encI x).length = 1 := rfl
theorem lenS (x : S) : (encS x).length = 2 := rfl
theorem lenE (x : E) : (encE x).length = 3 := rfl
theorem lenV (x : Value) : (encV x).length = 1 := rfl
section
variable {w : World} {a : Option Addr} {b off i : Nat}
theorem SlAt.ci {xs : List Int} {x : Int} (h : SlAt encI 1 w a b off xs) (hx : xs[i]? = some x) : w.cell? ⟨b, off + i, none⟩ = some (.int .i64 x) := by
  simpa using h.cell i x hx 0 _ rfl
theorem SlAt.cb {xs : List Bool} {x : Bool} (h : SlAt encB 1 w a b off xs) (hx : xs[i]? = some x) : w.cell? ⟨b, off + i, none⟩ = some (.bool x) := by
  simpa using h.cell i x hx 0 _ rfl
theorem SlAt.cv {xs : List Value} {x : Value} (h : SlAt encV 1 w a b off xs) (hx : xs[i]? = some x) : w.cell? ⟨b, off + i, none⟩ = some x := by
  simpa using h.cell i x hx 0 _ rfl
theorem SlAt.s0 {xs : List S} {x : S} (h : SlAt encS 2 w a b off xs) (hx : xs[i]? = some x) : w.cell? ⟨b, off + i * 2, none⟩ = some (.int .i64 x.1) := by
  simpa using h.cell i x hx 0 _ rfl
theorem SlAt.s1 {xs : List S} {x : S} (h : SlAt encS 2 w a b off xs) (hx : xs[i]? = some x) : w.cell? ⟨b, off + i * 2 + 1, none⟩ = some (.int .i64 x.2) :=
  h.cell i x hx 1 _ rfl
theorem SlAt.e0 {xs : List E} {x : E} (h : SlAt encE 3 w a b off xs) (hx : xs[i]? = some x) : w.cell? ⟨b, off + i * 3, none⟩ = some (.int .i64 x.1) := by
  simpa using h.cell i x hx 0 _ rfl
theorem SlAt.e1 {xs : List E} {x : E} (h : SlAt encE 3 w a b off xs) (hx : xs[i]? = some x) : w.cell? ⟨b, off + i * 3 + 1, none⟩ = some (.int .i64 x.2.1) :=
  h.cell i x hx 1 _ rfl
theorem SlAt.e2 {xs : List E} {x : E} (h : SlAt encE 3 w a b off xs) (hx : xs[i]? = some x) : w.cell? ⟨b, off + i * 3 + 2, none⟩ = some (.int .i64 x.2.2) :=
  h.cell i x hx 2 _ rfl
end
theorem getElem?_of_lt {α : Type} {xs : List α} {i : Nat} (h : i < xs.length) : ∃ x, xs[i]? = some x := ⟨xs[i], List.getElem?_eq_getElem h⟩
theorem ret_i {a b : Int} (h : a = b) : Ending.returned (.int .i64 a) = .returned (.int .i64 b) := by rw [h]
theorem take_snoc {α : Type} {xs : List α} {i : Nat} {x : α} (h : xs[i]? = some x) : xs.take (i + 1) = xs.take i ++ [x] := by
  obtain ⟨hl, rfl⟩ := List.getElem?_eq_some_iff.1 h
  exact List.take_succ_eq_append_getElem hl
end Go.Proofs.YtdhloijdefnkpaaGreatDoor
namespace Go.Proofs.YtdhloijdefnkpaaGreatDoor
open Go.RowKit Pl
theorem faultNew_any (s : ByteArray) (t : TypeId) (v : Value) (w : World) : Calls Tryz.prog 33 #[.string s, .iface t v] w fun e w' =>
    e = .returned (.iface 73 (.pointer (some ⟨w.heap.size, 0, none⟩))) ∧ w' = w.alloc (.cells #[.string s, .int .i64 0, .int .i64 0, .iface t v] 76) := by
  go_enter Tryz.func33, Tryz.ntmps33
  go_wp2
  go_ret
  exact ⟨rfl, rfl⟩
structure GErr (g : Nat) (p : Addr) (w : World) : Prop where
  lt : g < w.heap.size
  cell : w.cell? ⟨g, 0, none⟩ = some (.iface 285 (.pointer (some p)))
theorem GErr.below {g : Nat} {p : Addr} {w w' : World} (h : GErr g p w) (hB : Below w.heap.size w w') : GErr g p w' :=
  ⟨Nat.lt_of_lt_of_le h.lt hB.size, by rw [hB.cell (p := ⟨g, 0, none⟩) h.lt]; exact h.cell⟩
structure FaultAt (w : World) (v : Value) (layer : ByteArray) (inner : Value) : Prop where
  ex : ∃ b, v = .iface 73 (.pointer (some ⟨b, 0, none⟩)) ∧ w.heap[b]? = some (.cells #[.string layer, .int .i64 0, .int .i64 0, inner] 76 (0, 0))
theorem offends_any (st lb s0 : Int) (es : Value) (x : E) (w : World) :
    Calls Tryz.prog 78 #[.agg #[.int .i64 st, .int .i64 lb, .int .i64 s0, es], .agg #[.int .i64 x.1, .int .i64 x.2.1, .int .i64 x.2.2]] w fun e w' =>
      e = .returned (.bool (offB st lb x)) ∧ Below w.heap.size w w' := by
  unfold offB
  go_enter Tryz.func78, Tryz.ntmps78
  go_wp2
  all_goals (go_ret; exact ⟨by simp [*]; try omega, ((Below.refl _ _).alloc (Nat.le_refl _) _).alloc (by simp) _⟩)
set_option maxRecDepth 100000 in
set_option maxHeartbeats 1000000 in
theorem check_head {p : Addr} (st lb s0 : Int) (a : Option Addr) (n c : Nat) (w : World) (hG : GErr 1 p w) (h : HeadBad st lb s0 n) :
    Calls Tryz.prog 42 #[.agg #[.int .i64 st, .int .i64 lb, .int .i64 s0, .slice a n c]] w fun e w' => ∃ v, e = .returned v ∧ FaultAt w' v ⟨#[115, 121, 115, 116, 101, 109]⟩ (.iface 285 (.pointer (some p))) ∧ Below w.heap.size w w' := by
  unfold HeadBad at h
  have hg := hG.cell
  have hlt := hG.lt
  go_enter Tryz.func42, Tryz.ntmps42
  go_wp2_with (go_at_call 33; refine (faultNew_any _ _ _ _).mono ?_; rintro e w1 ⟨rfl, rfl⟩)
  all_goals (go_ret; exact ⟨_, rfl, ⟨w.heap.size + 1, rfl, by simpa using heap_alloc_new (w.alloc (.cells #[.int .i64 st, .int .i64 lb, .int .i64 s0, .slice a n c] 24)) (.cells #[.string ⟨#[115, 121, 115, 116, 101, 109]⟩, .int .i64 0, .int .i64 0, .iface 285 (.pointer (some p))] 76)⟩, ((Below.refl _ _).alloc (Nat.le_refl _) _).alloc (by simp) _⟩)
def CheckPost (st lb : Int) (xs : List E) (p : Addr) (e : Ending) (w' : World) : Prop :=
  if xs.all (fun x => !offB st lb x) then e = .returned .nilIface else ∃ v, e = .returned v ∧ FaultAt w' v ⟨#[115, 121, 115, 116, 101, 109]⟩ (.iface 285 (.pointer (some p)))
set_option maxRecDepth 100000 in
set_option maxHeartbeats 1000000 in
theorem check_body {p : Addr} (st lb s0 : Int) (a : Option Addr) (b off c : Nat) (xs : List E) (w : World) (hG : GErr 1 p w) (h : ¬ HeadBad st lb s0 xs.length) (hS : SlAt encE 3 w a b off xs) :
    Calls Tryz.prog 42 #[.agg #[.int .i64 st, .int .i64 lb, .int .i64 s0, .slice a xs.length c]] w fun e w' =>
      CheckPost st lb xs p e w' ∧ Below w.heap.size w w' := by
  unfold HeadBad at h
  have hg := hG.cell
  have hlt := hG.lt
  obtain ⟨h1, h2, h3, h4, h5, h6, h7⟩ : 0 ≤ st ∧ st ≤ 1000 ∧ 1 ≤ lb ∧ lb ≤ 201 ∧ 0 ≤ s0 ∧ (s0 = 0 ∨ s0 < st) ∧ (xs.length : Int) ≤ 10000 := by omega
  clear h
  obtain ⟨C, hC⟩ : ∃ C, C = Obj.cells #[.int .i64 st, .int .i64 lb, .int .i64 s0, .slice a xs.length c] 24 := ⟨_, rfl⟩
  obtain ⟨F, hF⟩ : ∃ F, F = Obj.cells #[.string ⟨#[115, 121, 115, 116, 101, 109]⟩, .int .i64 0, .int .i64 0, .iface 285 (.pointer (some p))] 76 := ⟨_, rfl⟩
  have HC := Lib.hid hC; have HF := Lib.hid hF
  clear hC hF
  go_enter Tryz.func42, Tryz.ntmps42
  go_wp2_with (go_at_call 33; refine (faultNew_any _ _ _ _).mono ?_; rintro e w1 ⟨rfl, rfl⟩)
  all_goals
    rw [← HC.out, ← HF.out]
    go_loopw [5, 54] (fun _ i wr => ∃ k : Nat, k ≤ xs.length ∧ i = .int .i64 k ∧ (∀ j x, j < k → xs[j]? = some x → offB st lb x = false) ∧ Below (w.heap.size + 2) ((w.alloc C).alloc F) wr)
      (fun _ i _ => xs.length - (intOf i).toNat)
    case atStart => exact ⟨0, Nat.zero_le _, rfl, by intro j x hj; omega, Below.refl _ _⟩
    case round =>
      obtain ⟨k, hk, rfl, hz, hB⟩ := hrel
      have HZ := Lib.hid hz; clear hz
      have hsz : w.heap.size + 2 ≤ wr.heap.size := by simpa using hB.size
      have q0 : wr.heap[w.heap.size]? = some C := by
        rw [hB.block _ (by omega), Below.heap_alloc _ _ _ (by simp), heap_alloc_new]
      have q1 : wr.heap[w.heap.size + 1]? = some F := by
        rw [hB.block _ (by omega)]; simpa using heap_alloc_new (w.alloc C) F
      rw [HC.out] at q0; rw [HF.out] at q1
      have s0' : wr.cell? ⟨w.heap.size, 0, none⟩ = some (.int .i64 st) := by simp [World.cell?, q0]
      have s1' : wr.cell? ⟨w.heap.size, 1, none⟩ = some (.int .i64 lb) := by simp [World.cell?, q0]
      have s2' : wr.cell? ⟨w.heap.size, 2, none⟩ = some (.int .i64 s0) := by simp [World.cell?, q0]
      have s3' : wr.cell? ⟨w.heap.size, 3, none⟩ = some (.slice a xs.length c) := by simp [World.cell?, q0]
      have Q1 := Lib.hid q1
      have hBw : Below w.heap.size w wr := (((Below.refl _ _).alloc (Nat.le_refl _) C).alloc (by simp) F).trans (hB.mono (by omega))
      have hltr : w.heap.size < wr.heap.size := by omega
      clear q0 q1
      by_cases hlt2 : k < xs.length
      · obtain ⟨x, hx⟩ := getElem?_of_lt hlt2
        obtain rfl := hS.ad (by omega)
        have hS' := hS.below hBw (Nat.le_refl _)
        have c0 := hS'.e0 hx; have c1 := hS'.e1 hx; have c2 := hS'.e2 hx
        have hbl := hS'.lt (by omega)
        have HX := Lib.hid hx
        have HS := Lib.hid hS
        clear hx hS hS' hg
        by_cases ho : offB st lb x = true
        · have HO := Lib.hid ho
          go_wp2_with (go_at_call 78; refine (offends_any st lb s0 _ x _).mono ?_; rintro e w1 ⟨rfl, hB1⟩)
          go_ret
          have hall : xs.all (fun x => !offB st lb x) = false := by
            rw [List.all_eq_false]
            exact ⟨x, List.mem_of_getElem? HX.out, by simp [HO.out]⟩
          have hB2 := (hB.alloc hsz _).trans (hB1.mono (by simp; omega))
          refine ⟨by unfold CheckPost; rw [hall]; exact ⟨_, rfl, ⟨w.heap.size + 1, rfl, by rw [hB2.block _ (by omega), ← HF.out]; simpa using heap_alloc_new (w.alloc C) F⟩⟩, (((Below.refl _ _).alloc (Nat.le_refl _) C).alloc (by simp) F).trans (hB2.mono (by omega))⟩
        · have ho' : offB st lb x = false := by simpa using ho
          have HO := Lib.hid ho'
          clear ho
          go_wp2_with (go_at_call 78; refine (offends_any st lb s0 _ x _).mono ?_; rintro e w1 ⟨rfl, hB1⟩)
          go_roundw
          case rel => exact ⟨k + 1, by omega, by go_num, by
            intro j y hj hy
            by_cases hjk : j = k
            · subst hjk
              rw [HX.out] at hy
              simp at hy; subst hy
              exact HO.out
            · exact HZ.out j y (by omega) hy, (hB.alloc hsz _).trans (hB1.mono (by simp; omega))⟩
          case measure => simp [intOf]; omega
      · clear hS hg
        go_wp2
        go_ret
        have hall : xs.all (fun x => !offB st lb x) = true := by
          rw [List.all_eq_true]
          intro x hx
          obtain ⟨j, hj, rfl⟩ := List.getElem_of_mem hx
          simp [HZ.out j _ (by omega) (List.getElem?_eq_getElem hj)]
        exact ⟨by unfold CheckPost; rw [hall]; rfl, hBw⟩
end Go.Proofs.YtdhloijdefnkpaaGreatDoor
namespace Go.Proofs.YtdhloijdefnkpaaGreatDoor
open Go.RowKit Pl
theorem heap_alloc_at (w : World) (o : Obj) (g : Nat) (h : g = w.heap.size) : (w.alloc o).heap[g]? = some o := by subst h; exact heap_alloc_new w o
theorem size_setCell (w : World) (p : Addr) (v : Value) : (w.setCell p v).heap.size = w.heap.size := by simp [World.setCell]
theorem own_below {w w' : World} {base : Nat} {e : TypeId} {k n : Nat} {v : Value} {xs : List Value} (h : w.ownsRow base e k v n xs) (hB : Below w.heap.size w w') : w'.ownsRow base e k v n xs := by
  refine ⟨h.1, ?_⟩
  rcases h.2 with h2 | ⟨g, cap, cur, hv, hb, hg, r⟩
  · exact .inl h2
  · exact .inr ⟨g, cap, cur, hv, hb, by rw [hB.block _ (Array.getElem?_eq_some_iff.1 hg).1]; exact hg, r⟩
theorem SlAt.setOther {α : Type} {enc : α → List Value} {k : Nat} {w : World} {a : Option Addr} {b off : Nat} {xs : List α} (h : SlAt enc k w a b off xs) {p : Addr} (hp : 0 < xs.length → b ≠ p.block) (v : Value) : SlAt enc k (w.setCell p v) a b off xs :=
  ⟨h.ad, fun hl => by have := h.lt hl; simpa [World.setCell] using this, fun i x hx j u hu => by
    have hl : 0 < xs.length := by have := (List.getElem?_eq_some_iff.1 hx).1; omega
    rw [World.cell?_of_block (w := w) (a := ⟨b, off + i * k + j, none⟩) (Below.heap_setCell _ _ _ _ (hp hl))]
    exact h.cell i x hx j u hu⟩
theorem SlAt.alloc {α : Type} {enc : α → List Value} {k : Nat} {w : World} {a : Option Addr} {b off : Nat} {xs : List α} (h : SlAt enc k w a b off xs) (o : Obj) : SlAt enc k (w.alloc o) a b off xs :=
  h.below ((Below.refl w.heap.size w).alloc (Nat.le_refl _) o) (Nat.le_refl _)
theorem heap_set2 {w : World} {g i j : Nat} {c : Array Value} {e : TypeId} {a b : Value} (h : w.heap[g]? = some (.cells c e (0, 0))) :
    ((w.setCell ⟨g, i, none⟩ a).setCell ⟨g, j, none⟩ b).heap[g]? = some (.cells ((c.setIfInBounds i a).setIfInBounds j b) e (0, 0)) :=
  heap_setCell_same _ g j _ e b (heap_setCell_same w g i c e a h)
theorem own_mono {w : World} {base base' : Nat} {e : TypeId} {k : Nat} {v : Value} {n : Nat} {xs : List Value} (h : w.ownsRow base e k v n xs) (hb : base' ≤ base) : w.ownsRow base' e k v n xs := by
  refine ⟨h.1, ?_⟩
  rcases h.2 with h2 | ⟨g, cap, cur, hv, hg, r⟩
  · exact .inl h2
  · exact .inr ⟨g, cap, cur, hv, Nat.le_trans hb hg, r⟩
theorem bdrew {w0 w : World} {B n : Nat} (h : Below B w0 w) : Below B w0 (w.drewN n) := ⟨h.os, h.tape, h.output, h.size, h.block⟩
end Go.Proofs.YtdhloijdefnkpaaGreatDoor
namespace Go.Proofs.YtdhloijdefnkpaaGreatDoor
open Go.RowKit Go.Extern.Stop Go.Stop Go.Extern Pl
/-! closed facts: what TypeOf(target).Comparable() gives at such a target; what the assertions find -/
theorem isTypeOf (v : Value) (w : World) : (callFunc 49 #[.iface 285 v]).run Tryz.prog w = .ok (.value (.iface 144 (.agg #[.pointer (some ⟨24, 285, none⟩)]))) w := by kernel_rfl
theorem isComparable (w : World) : (callFunc 243 #[.agg #[.pointer (some ⟨24, 285, none⟩)]]).run Tryz.prog w = .ok (.value (.bool true)) w := by kernel_rfl
theorem isMethodComparable (v : Value) (w : World) : (Go.method 415 144 v "Comparable").run Tryz.prog w = .ok (243, v) w := by kernel_rfl
theorem isComp : (Tryz.prog.info? 285).map (·.comparable) = some true := by kernel_rfl
theorem isSize : (Tryz.prog.info? 303).map (·.size) = some 1 := by kernel_rfl
theorem noIsE (v : Value) (xT : TypeId) (w : World) : (Instr.typeAssert (.iface 285 v) xT 146 true).run Tryz.prog w = .ok (.tuple #[.nilIface, .bool false]) w := run_typeAssert_lacksB Tryz.underlying146 (by kernel_rfl) (by kernel_rfl) v xT w
theorem noUnwrapE (v : Value) (xT : TypeId) (w : World) : (Instr.typeAssert (.iface 285 v) xT 149 true).run Tryz.prog w = .ok (.tuple #[.nilIface, .bool false]) w := run_typeAssert_lacksB Tryz.underlying149 (by kernel_rfl) (by kernel_rfl) v xT w
theorem noUnwrapsE (v : Value) (xT : TypeId) (w : World) : (Instr.typeAssert (.iface 285 v) xT 151 true).run Tryz.prog w = .ok (.tuple #[.nilIface, .bool false]) w := run_typeAssert_lacksB Tryz.underlying151 (by kernel_rfl) (by kernel_rfl) v xT w
theorem noIsW (v : Value) (xT : TypeId) (w : World) : (Instr.typeAssert (.iface 73 v) xT 146 true).run Tryz.prog w = .ok (.tuple #[.nilIface, .bool false]) w := run_typeAssert_lacksB Tryz.underlying146 (by kernel_rfl) (by kernel_rfl) v xT w
theorem hasUnwrapW (v : Value) (xT : TypeId) (w : World) : (Instr.typeAssert (.iface 73 v) xT 149 true).run Tryz.prog w = .ok (.tuple #[.iface 73 v, .bool true]) w := run_typeAssert_hasB Tryz.underlying149 (by kernel_rfl) v xT w
theorem methodUnwrap (v : Value) (w : World) : (Go.method 415 73 v "Unwrap").run Tryz.prog w = .ok (239, v) w := by kernel_rfl
end Go.Proofs.YtdhloijdefnkpaaGreatDoor
namespace Go.Proofs.YtdhloijdefnkpaaGreatDoor
open Go.RowKit Pl
theorem slAt_flat {α : Type} {enc : α → List Value} {k : Nat} {w : World} {a : Option Addr} {b off : Nat} {xs : List α} (hk : ∀ x, (enc x).length = k) (h : SlAt enc k w a b off xs) (j : Nat) (u : Value) (hu : (xs.flatMap enc)[j]? = some u) :
    w.cell? ((⟨b, off, none⟩ : Addr).add j) = some u := by
  have hj := (List.getElem?_eq_some_iff.1 hu).1
  rw [length_flatMap hk] at hj
  have hk0 : 0 < k := by
    rcases Nat.eq_zero_or_pos k with rfl | h
    · simp at hj
    · exact h
  have hi : j / k < xs.length := by rw [Nat.div_lt_iff_lt_mul hk0]; exact hj
  obtain ⟨x, hx⟩ := getElem?_of_lt hi
  have hm : j % k < (enc x).length := by rw [hk]; exact Nat.mod_lt _ hk0
  have h1 := getElem?_flatMap hk xs (j / k) x hx (j % k) _ (List.getElem?_eq_getElem hm)
  rw [show j / k * k + j % k = j from Nat.div_add_mod' j k] at h1
  rw [hu] at h1
  have h2 := h.cell (j / k) x hx (j % k) u (by rw [List.getElem?_eq_getElem hm, ← h1])
  rw [show off + j / k * k + j % k = off + j by rw [Nat.add_assoc, Nat.div_add_mod']] at h2
  have hadd : (⟨b, off, none⟩ : Addr).add j = ⟨b, off + j, none⟩ := by unfold Addr.add; split <;> simp_all
  rw [hadd]; exact h2
theorem cell_alloc_of {w : World} {o : Obj} {a : Addr} {u : Value} (h : w.cell? a = some u) : (w.alloc o).cell? a = some u := by
  rw [World.cell?_alloc_old _ _ _ (Nat.ne_of_lt (World.block_lt_of_cell? _ _ h))]; exact h
set_option maxRecDepth 100000 in
theorem cloneE_any {a : Option Addr} {b off c : Nat} {xs : List E} {w : World} (h : SlAt encE 3 w a b off xs) (hl : xs.length ≤ 1000000) :
    Calls Tryz.prog 89 #[.slice a xs.length c] w fun e w' => ∃ v, e = .returned v ∧ w'.ownsRow w.heap.size 35 3 v xs.length (xs.flatMap encE) ∧ Below w.heap.size w w' := by
  cases a with
  | none =>
    have hx : xs = [] := by
      cases xs with
      | nil => rfl
      | cons x l => have := h.ad (by simp); cases this
    subst hx
    have heq := fun (w : World) => Lib.run_eql_slice_nil (P := Tryz.prog) w 22 35 none 0 c 0 0 Tryz.underlying22
    clear h
    go_enter Tryz.func89, Tryz.ntmps89
    go_wp2
    go_ret
    exact ⟨_, rfl, World.ownsRow_nil _ _ _ _, Below.refl _ _⟩
  | some ad =>
    have heq := fun (w : World) => Lib.run_eql_slice_nil (P := Tryz.prog) w 22 35 (some ad) xs.length c 0 0 Tryz.underlying22
    have hnews : ∀ j u, (xs.flatMap encE)[j]? = some u → w.cell? (ad.add j) = some u := by
      intro j u hu
      have hj := (List.getElem?_eq_some_iff.1 hu).1
      rw [length_flatMap lenE] at hj
      have hp : 0 < xs.length := by cases xs <;> simp at *
      have := h.ad hp
      simp at this; subst this
      exact slAt_flat lenE h j u hu
    have hlen : (xs.flatMap encE).length = xs.length * 3 := length_flatMap lenE xs
    have h1 : ∀ u ∈ xs.flatMap encE, u.oneCell' = true := by
      intro u hu
      obtain ⟨x, _, hx⟩ := List.mem_flatMap.1 hu
      simp [encE] at hx
      rcases hx with rfl | rfl | rfl <;> rfl
    have HN := Lib.hid hnews; have HL := Lib.hid hlen; have H1 := Lib.hid h1
    clear h hnews hlen h1
    generalize xs.flatMap encE = news at *
    go_enter Tryz.func89, Tryz.ntmps89
    go_wp2_with (at_builtin; refine wpList_app rfl _ _ _ rfl rowE ((Below.refl w.heap.size w).alloc (Nat.le_refl _) _) (by simp) rfl (World.ownsRow_made w #[] 0 (Nat.le_refl _) (by decide) (by simp)) ad xs.length c news rfl HL.out (fun j u hu => cell_alloc_of (HN.out j u hu)) H1.out (by omega) (by unfold maxLen; omega) ?_; intro v' w1 hown1 hb1 _)
    go_ret
    exact ⟨_, rfl, by simpa using hown1, hb1⟩
end Go.Proofs.YtdhloijdefnkpaaGreatDoor
namespace Go.Proofs.YtdhloijdefnkpaaGreatDoor
open Go.RowKit Pl
theorem eqlE (x y : E) (w : World) : (binOp .eql 35 (.agg #[.int .i64 x.1, .int .i64 x.2.1, .int .i64 x.2.2]) (.agg #[.int .i64 y.1, .int .i64 y.2.1, .int .i64 y.2.2])).run Tryz.prog w = .ok (.bool (decide (x = y))) w := by
  have u3 := Tryz.underlying3
  have a3 := Tryz.isAgg3
  have z3 := Tryz.sizeOf3
  have hS : Tryz.prog.underlying 35 = some (.struct (Tryz.prog.fieldsOf 35)) := by kernel_rfl
  have hp : Tryz.prog.stoodInHeld 35 = false := by kernel_rfl
  rw [run_eql_struct, show (10000 : Nat) = 9999 + 1 from rfl, run_equalIn_agg w 9999 35 _ _ hS hp]
  simp only [Program.fieldsOf, Tryz.underlying35]
  go_simp
  obtain ⟨x1, x2, x3⟩ := x; obtain ⟨y1, y2, y3⟩ := y
  by_cases h1 : x1 = y1 <;> by_cases h2 : x2 = y2 <;> by_cases h3 : x3 = y3 <;> simp [h1, h2, h3]
theorem neqE (x y : E) (w : World) : (binOp .neq 35 (.agg #[.int .i64 x.1, .int .i64 x.2.1, .int .i64 x.2.2]) (.agg #[.int .i64 y.1, .int .i64 y.2.1, .int .i64 y.2.2])).run Tryz.prog w = .ok (.bool (!decide (x = y))) w := by
  have h := eqlE x y w
  rw [run_eql_struct] at h
  rw [run_neq_struct]
  cases hr : (Op.equalIn 10000 35 (.agg #[.int .i64 x.1, .int .i64 x.2.1, .int .i64 x.2.2]) (.agg #[.int .i64 y.1, .int .i64 y.2.1, .int .i64 y.2.2])).run Tryz.prog w with
  | ok b w' => rw [hr] at h; simp [Result.andThen] at h ⊢; exact ⟨h.1, h.2⟩
  | halt b w' => rw [hr] at h; simp [Result.andThen] at h
theorem guardE : Tryz.prog.eqGuardType Tryz.prog.depth 35 = false := by kernel_rfl
section
variable {α : Type} {enc : α → List Value} {k : Nat} {w : World} {base g n cap : Nat} {e : TypeId} {xs : List α}
theorem slAt_row (hk : ∀ x, (enc x).length = k) (h : w.ownsRow base e k (.slice (some ⟨g, 0, none⟩) n cap) xs.length (xs.flatMap enc)) : SlAt enc k w (some ⟨g, 0, none⟩) g 0 xs := by
  obtain ⟨a, c, b, hv, _, _, hs, _⟩ := slAt_own hk h
  simp only [Value.slice.injEq] at hv
  obtain ⟨rfl, _, _⟩ := hv
  by_cases h0 : 0 < xs.length
  · have := hs.ad h0
    simp at this; subst this
    exact hs
  · have : xs = [] := List.eq_nil_of_length_eq_zero (by omega)
    subst this
    exact slAt_nil _ _ _ _
theorem flat_set (hk : ∀ x, (enc x).length = k) : ∀ (xs : List α) (i : Nat) (x : α), i < xs.length → (xs.set i x).flatMap enc = (xs.flatMap enc).take (i * k) ++ enc x ++ (xs.flatMap enc).drop (i * k + k)
  | [], i, x, h => by simp at h
  | y :: xs, 0, x, _ => by
    simp only [List.set_cons_zero, List.flatMap_cons, Nat.zero_mul, List.take_zero, List.nil_append, Nat.zero_add]
    rw [List.drop_append_of_le_length (by rw [hk]; omega), List.drop_of_length_le (by rw [hk]; omega), List.nil_append]
  | y :: xs, i + 1, x, h => by
    simp only [List.set_cons_succ, List.flatMap_cons]
    rw [flat_set hk xs i x (by simpa using h)]
    rw [Nat.add_mul, Nat.one_mul, List.take_append, List.drop_append, hk]
    rw [List.take_of_length_le (l := enc y) (by rw [hk]; omega), List.drop_of_length_le (l := enc y) (by rw [hk]; omega)]
    rw [show i * k + k - k = i * k by omega, show i * k + k + k - k = i * k + k by omega]
    simp
end
theorem row_frozen {w : World} {base g n m cap k : Nat} {e : TypeId} {xs : List Value} (h : w.ownsRow base e k (.slice (some ⟨g, 0, none⟩) n cap) m xs) (j : Nat) : w.frozen? ⟨g, j, none⟩ = false := by
  rcases h.2 with ⟨h', _⟩ | ⟨g', cap', cur, h', hb, hg, hnc, hcm, hcs, htake⟩
  · simp at h'
  · simp only [Value.slice.injEq, Option.some.injEq, Addr.mk.injEq, and_true] at h'
    obtain ⟨rfl, rfl, rfl⟩ := h'
    simp [World.frozen?, hg]
theorem set3 {l : List Value} {i : Nat} {a b c : Value} (h : i * 3 + 3 ≤ l.length) : ((l.set (i * 3) a).set (i * 3 + 1) b).set (i * 3 + 2) c = l.take (i * 3) ++ [a, b, c] ++ l.drop (i * 3 + 3) := by
  apply List.ext_getElem?
  intro j
  simp only [List.getElem?_set, List.length_set, List.append_assoc]
  by_cases h1 : j < i * 3
  · rw [if_neg (by omega), if_neg (by omega), if_neg (by omega), List.getElem?_append_left (by simp; omega), List.getElem?_take, if_pos h1]
  · rw [List.getElem?_append_right (by simp; omega)]
    simp only [List.length_take, Nat.min_eq_left (show i * 3 ≤ l.length by omega)]
    by_cases h2 : j = i * 3
    · subst h2; rw [if_neg (by omega), if_neg (by omega), if_pos rfl, if_pos (by omega)]; simp
    · by_cases h3 : j = i * 3 + 1
      · subst h3; rw [if_neg (by omega), if_pos rfl, if_pos (by omega)]; rw [show i * 3 + 1 - i * 3 = 1 by omega]; rfl
      · by_cases h4 : j = i * 3 + 2
        · subst h4; rw [if_pos rfl, if_pos (by omega), show i * 3 + 2 - i * 3 = 2 by omega]; rfl
        · rw [if_neg (by omega), if_neg (by omega), if_neg (by omega)]
          rw [show j - i * 3 = (j - (i * 3 + 3)) + 1 + 1 + 1 by omega]
          simp only [List.cons_append, List.nil_append, List.getElem?_cons_succ, List.getElem?_drop]
          congr 1; omega
theorem ownE_set {w : World} {base g n cap : Nat} {e : TypeId} {xs : List E} (h : w.ownsRow base e 3 (.slice (some ⟨g, 0, none⟩) n cap) xs.length (xs.flatMap encE)) (hn : n = xs.length) (i : Nat) (x : E) (hi : i < xs.length) :
    (((w.setCell ⟨g, i * 3, none⟩ (.int .i64 x.1)).setCell ⟨g, i * 3 + 1, none⟩ (.int .i64 x.2.1)).setCell ⟨g, i * 3 + 2, none⟩ (.int .i64 x.2.2)).ownsRow base e 3 (.slice (some ⟨g, 0, none⟩) n cap) (xs.set i x).length ((xs.set i x).flatMap encE) := by
  subst hn
  have h1 := ((h.stored (i * 3) (.int .i64 x.1)).1.stored (i * 3 + 1) (.int .i64 x.2.1)).1.stored (i * 3 + 2) (.int .i64 x.2.2)
  rw [set3 (by rw [length_flatMap lenE]; omega)] at h1
  replace h1 := h1.1
  rw [flat_set lenE xs i x hi, List.length_set]
  exact h1
theorem below_set3 {w0 w : World} {B g i : Nat} {a b c : Value} (h : Below B w0 w) (hg : B ≤ g) : Below B w0 (((w.setCell ⟨g, i, none⟩ a).setCell ⟨g, i + 1, none⟩ b).setCell ⟨g, i + 2, none⟩ c) :=
  ((h.setCell hg _).setCell hg _).setCell hg _
end Go.Proofs.YtdhloijdefnkpaaGreatDoor

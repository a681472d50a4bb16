/-
  errors.Is over a fault that wraps a fault.
  CyclesNone: plain: where each state stands in the order; a collapsed system's own order.
  A collapsed system, collapsed and ordered anew.
-/
import Derived.Test.YtbbjmompbmgnmaaDoorG11
import Derived.Test.YtbbjmompbmgnmaaDoorG42
import Derived.Test.YtbbjmompbmgnmaaDoorTauJ
import Derived.Test.YtbbjmompbmgnmaaDoorPl12
import Derived.Test.YtbbjmompbmgnmaaDoorG5
import Derived.Test.YtbbjmompbmgnmaaDoorTauK
namespace Go.Proofs.YtbbjmompbmgnmaaDoor
open Go.RowKit Go.Extern.Stop Go.Stop Go.Extern Pl

set_option maxRecDepth 100000 in
/-- errors.Is(a fault that wraps a fault that wraps x itself, x). -/
theorem is_fault2_same (pb pc : Nat) (b : Addr) (w : World) (h1 : w.cell? ⟨pb, 3, none⟩ = some (.iface 143 (.pointer (some ⟨pc, 0, none⟩)))) (h2 : w.cell? ⟨pc, 3, none⟩ = some (.iface 208 (.pointer (some b)))) :
    Calls Tryd.prog 32 #[.iface 143 (.pointer (some ⟨pb, 0, none⟩)), .iface 208 (.pointer (some b))] w fun e w' => e = .returned (.bool true) ∧ w = w' := by
  obtain ⟨i, hi, hcmp⟩ := Option.map_eq_some_iff.1 isComp
  obtain ⟨j, hj, hjs⟩ := Option.map_eq_some_iff.1 isSize
  have tT := isTypeOf
  have cT := isComparable
  have mR := isMethodComparable
  have nE := noIsE
  have uE := noUnwrapE
  have vE := noUnwrapsE
  have nW := noIsW
  have uW := hasUnwrapW
  have mU := methodUnwrap
  have heq := run_eql_iface_ptr_same (P := Tryd.prog) w b Tryd.underlying31 Tryd.underlying208 hi hcmp hj
  have hty := run_eql_iface_types (P := Tryd.prog) 143 208 (.pointer (some ⟨pb, 0, none⟩)) (.pointer (some b)) Tryd.underlying31 (by decide) w
  have hty2 := run_eql_iface_types (P := Tryd.prog) 143 208 (.pointer (some ⟨pc, 0, none⟩)) (.pointer (some b)) Tryd.underlying31 (by decide) w
  go_enter Tryd.func32, Tryd.ntmps32
  go_wp2
  refine wp_loop_rounds 3 ?_
  rw [rounds_succ]
  go_wp2
  rw [rounds_succ]
  go_wp2
  rw [rounds_succ]
  go_wp2
  go_ret
  exact ⟨rfl, rfl⟩

/-- .. at a Fault2. -/
theorem is_Fault2 {w : World} {p : Addr} {v : Value} (h : Fault2 w p v) :
    Calls Tryd.prog 32 #[v, .iface 208 (.pointer (some p))] w fun e w' => e = .returned (.bool true) ∧ w = w' := by
  obtain ⟨vi, ⟨b, rfl, hb⟩, ⟨b2, rfl, hb2⟩⟩ := h
  exact is_fault2_same b b2 p w (by simp [World.cell?, hb]) (by simp [World.cell?, hb2])
end Go.Proofs.YtbbjmompbmgnmaaDoor

namespace Go.Proofs.YtbbjmompbmgnmaaDoor
open Go.RowKit Pl

/-- The place of each state, the first i being laid: 0: none. -/
def plc (D : List Nat) (i j : Nat) : Int := if j ∈ D.take i then (D.idxOf j : Int) + 1 else 0
theorem plc_nil (D : List Nat) (j : Nat) : plc D 0 j = 0 := by simp [plc]
theorem idxOf_at {D : List Nat} (hn : D.Nodup) {i k : Nat} (hk : D[i]? = some k) : D.idxOf k = i := by
  obtain ⟨hl, rfl⟩ := List.getElem?_eq_some_iff.1 hk
  exact hn.idxOf_getElem i hl
theorem plc_snoc {D : List Nat} (hn : D.Nodup) {i k : Nat} (hk : D[i]? = some k) (j : Nat) : plc D (i + 1) j = if j = k then (i : Int) + 1 else plc D i j := by
  have ht := take_snoc hk
  unfold plc
  rw [ht]
  by_cases e : j = k
  · subst e; simp [idxOf_at hn hk]
  · simp [e]
theorem plc_free {D : List Nat} (hn : D.Nodup) {i k : Nat} (hk : D[i]? = some k) : plc D i k = 0 := by
  unfold plc
  rw [if_neg]
  intro h
  obtain ⟨j, hj, he⟩ := List.mem_iff_getElem.1 h
  have hj2 : j < i := by rw [List.length_take] at hj; omega
  rw [List.getElem_take] at he
  have h1 : D[j]? = some k := by rw [← he]; exact List.getElem?_eq_getElem _
  have h2 := idxOf_at hn h1
  have h3 := idxOf_at hn hk
  omega
theorem plc_all {D : List Nat} {m : Nat} (hl : D.length ≤ m) {j : Nat} (h : j ∈ D) : plc D m j = (D.idxOf j : Int) + 1 := by
  unfold plc
  rw [if_pos (by rw [List.take_of_length_le hl]; exact h)]
theorem plc_rng (D : List Nat) (i j : Nat) : 0 ≤ plc D i j ∧ plc D i j ≤ D.length := by
  unfold plc
  split
  · rename_i h
    have := List.idxOf_lt_length_of_mem (List.mem_of_mem_take h)
    omega
  · omega
/-- What a silent step leads to stands ahead. -/
theorem plc_down {t : Lts} (hr : t.Right) (hs : Srt ltE t.es) {m : Nat} {D : List Nat} (hD : OrdL t m D) (hl : D.length ≤ m) {x y : Nat} (hx : x ∈ D) (h : tau t x y) : plc D m y < plc D m x := by
  have hi := List.idxOf_lt_length_of_mem hx
  have h1 : D[D.idxOf x]? = some x := by rw [List.getElem?_eq_getElem hi]; exact congrArg some (List.getElem_idxOf hi)
  have h2 := hD.ahead hr hs _ _ _ h1 h
  rw [plc_all hl hx, plc_all hl (List.mem_of_mem_take h2)]
  obtain ⟨j, hj, he⟩ := List.mem_iff_getElem.1 h2
  have hj2 : j < D.idxOf x := by rw [List.length_take] at hj; omega
  rw [List.getElem_take] at he
  have h3 : D[j]? = some y := by rw [← he]; exact List.getElem?_eq_getElem _
  have h4 := idxOf_at hD.nodup h3
  omega

theorem memK_self {m k : Nat} (hk : k < m) : memK ((List.range m).map Int.ofNat) m (k : Int) = [(k : Int)] := by
  have h : ∀ j : Nat, k < j → j ≤ m → memK ((List.range m).map Int.ofNat) j (k : Int) = [(k : Int)] := by
    have h0 : ∀ j : Nat, j ≤ k → memK ((List.range m).map Int.ofNat) j (k : Int) = [] := by
      intro j hj
      induction j with
      | zero => rfl
      | succ j ih =>
        rw [memK_snoc (x := (j : Int)) (by rw [List.getElem?_map, List.getElem?_range (by omega)]; rfl), if_neg (by omega), ih (by omega)]
    intro j
    induction j with
    | zero => intro h; omega
    | succ j ih =>
      intro h1 h2
      rw [memK_snoc (x := (j : Int)) (by rw [List.getElem?_map, List.getElem?_range (by omega)]; rfl)]
      by_cases e : j = k
      · subst e; rw [if_pos rfl, h0 j (Nat.le_refl _)]; rfl
      · rw [if_neg (by omega), ih (by omega) (by omega)]
  exact h m hk (Nat.le_refl _)
theorem flat_self {m : Nat} : ∀ D : List Nat, (∀ x ∈ D, x < m) → (D.flatMap fun k : Nat => memK ((List.range m).map Int.ofNat) m (k : Int)) = D.map Int.ofNat
  | [], _ => rfl
  | x :: D, h => by
    rw [List.flatMap_cons, memK_self (h x (by simp)), flat_self D (fun y hy => h y (by simp [hy]))]; rfl
theorem ord_len {t : Lts} {m : Nat} {D : List Nat} (hD : OrdL t m D) (ha : ∀ k, k < m → k ∈ D) : D.length = m := by
  have h1 := nodup_sub D (List.range m) hD.nodup (fun x hx => List.mem_range.2 (hD.rng x hx))
  have h2 := nodup_sub (List.range m) D List.nodup_range (fun x hx => ha x (List.mem_range.1 hx))
  simp at h1 h2
  omega

/-- A collapsed system's own classes: each state is one. -/
theorem self_cls {s : Lts} {n : Nat} {f : Nat → Int} (hr : s.Right) (hn : s.st = (n : Int)) (hc : Cyc s n f) {m : Nat} {g : Nat → Int} (hg : Cyc (col s (fl n (clf n f))) m g) : fl m (clf m g) = (List.range m).map Int.ofNat := by
  rw [← canon_fl]; exact col_apart hr hn hc hg
theorem self_col {s : Lts} {n : Nat} {f : Nat → Int} (hr : s.Right) (hn : s.st = (n : Int)) (hc : Cyc s n f) {m : Nat} (hm : (col s (fl n (clf n f))).st = (m : Int)) {g : Nat → Int} (hg : Cyc (col s (fl n (clf n f))) m g) :
    col (col s (fl n (clf n f))) (fl m (clf m g)) = col s (fl n (clf n f)) := by
  rw [self_cls hr hn hc hg]
  have h1 : (col s (fl n (clf n f))).st = ((dist (fl n (clf n f))).length : Int) := rfl
  rw [dist_clf_len] at h1
  obtain rfl : m = (dist (fl n f)).length := by omega
  exact col_col hr hn
end Go.Proofs.YtbbjmompbmgnmaaDoor

namespace Go.Proofs.YtbbjmompbmgnmaaDoor
open Go.RowKit Pl

theorem collapseSelf_any {p : Addr} {s : Lts} {n m : Nat} {f : Nat → Int} (hr : s.Right) (hn : s.st = (n : Int)) (hc : Cyc s n f) {t : Lts} (ht : t = col s (fl n (clf n f))) (hm : t.st = (m : Int)) {a : Option Addr} {b off c : Nat} {w : World}
    (hG : GErr 0 p w) (hS : SlAt encE 3 w a b off t.es) :
    Calls Tryd.prog 20 #[.agg #[.int .i64 m, .int .i64 t.lb, .int .i64 t.s0, .slice a t.es.length c]] w fun e w' => ∃ v ve, e = .returned (.tuple #[.agg #[.int .i64 m, .int .i64 t.lb, .int .i64 t.s0, ve], v, .nilIface]) ∧
      (∃ L : List Int, L.length = m ∧ w'.ownsRow w.heap.size 3 1 v L.length (L.flatMap encI)) ∧ w'.ownsRow w.heap.size 35 3 ve t.es.length (t.es.flatMap encE) ∧ Below w.heap.size w w' := by
  have htr : t.Right := by rw [ht]; exact col_right hr hn
  have h := collapseYes_any (c := c) htr hm hG hS
  rw [hm] at h
  refine h.mono ?_
  rintro e w' ⟨g, v, ve, hg, rfl, h1, h2, hB⟩
  have hcc : col t (fl m (clf m g)) = t := by
    rw [ht] at hg hm ⊢
    exact self_col hr hn hc hm hg
  rw [hcc, hm]
  rw [hcc] at h2
  exact ⟨v, ve, rfl, ⟨fl m (clf m g), fl_len _ _, by rw [fl_len]; exact h1⟩, h2, hB⟩

theorem orderSelf_any {p : Addr} {s : Lts} {n m : Nat} {f : Nat → Int} (hr : s.Right) (hn : s.st = (n : Int)) (hc : Cyc s n f) {t : Lts} (ht : t = col s (fl n (clf n f))) (hm : t.st = (m : Int)) {a : Option Addr} {b off c : Nat} {w : World}
    (hG : GErr 0 p w) (hS : SlAt encE 3 w a b off t.es) :
    Calls Tryd.prog 33 #[.agg #[.int .i64 m, .int .i64 t.lb, .int .i64 t.s0, .slice a t.es.length c]] w fun e w' => ∃ (D : List Nat) (v : Value), e = .returned (.tuple #[v, .nilIface]) ∧ OrdL t m D ∧ D.length = m ∧ (∀ k, k < m → k ∈ D) ∧
      w'.ownsRow w.heap.size 3 1 v (D.map Int.ofNat).length ((D.map Int.ofNat).flatMap encI) ∧ Below w.heap.size w w' := by
  have htr : t.Right := by rw [ht]; exact col_right hr hn
  have h := orderYes_any (c := c) htr hm hG hS
  rw [hm] at h
  refine h.mono ?_
  rintro e w' ⟨g, D, v, hg, hD, hall, rfl, h1, hB⟩
  have hcc : col t (fl m (clf m g)) = t := by
    rw [ht] at hg hm ⊢
    exact self_col hr hn hc hm hg
  have hcl : fl m (clf m g) = (List.range m).map Int.ofNat := by
    rw [ht] at hg
    exact self_cls hr hn hc hg
  rw [hcc, hcl] at hD
  rw [hcl] at hall h1
  have hml : (dist ((List.range m).map Int.ofNat)).length = m := by rw [dist_ofNat]; simp
  rw [hml] at hD hall
  have hl := ord_len hD hall
  rw [flat_self D hD.rng] at h1
  exact ⟨D, v, rfl, hD, hl, hall, by rw [List.length_map, hl]; exact h1, hB⟩
end Go.Proofs.YtbbjmompbmgnmaaDoor

/-
  Maps keyed by api.Step: how the keys read.
  Maps keyed by edges, by numbers: how the keys read; rows beside a map that grows.
  CyclesNone: plain: where each state stands in the order; a collapsed system's own order.
  Plain: how long signatures are and what stands in them; the numbers of texts; classes at the first round.
  Plain: weak steps; the saturated system; its strong bisimilarity by rounds; branching bisimilarity lies within it.
-/
import Derived.Test.YtclannenknhfpaaGreatDoorGKit
import Derived.Test.YtclannenknhfpaaGreatDoorGBrC
import Derived.Lib.SmallJoins
import Derived.MapViews
import Derived.Test.YtclannenknhfpaaGreatDoorGTogether
import Derived.Test.YtclannenknhfpaaGreatDoorGPl6
import Derived.Test.YtclannenknhfpaaGreatDoorGPl10
import Derived.Test.YtclannenknhfpaaGreatDoorGRwsB
namespace Go.Proofs.YtclannenknhfpaaGreatDoor
open Go.RowKit Go.ChangeShapes Pl

def encSv (x : S) : Value := .agg #[.int .i64 x.1, .int .i64 x.2]
def okS (x : S) : Prop := (Lit.int .i64 x.1).wf = true ∧ (Lit.int .i64 x.2).wf = true

theorem laidOutK : laidOutB Tryz.prog = true := by kernel_rfl
theorem rowStep : (84 : TypeId) < Tryz.prog.types.size := of_decide_eq_true (by kernel_rfl)
theorem wideStep : (match Tryz.prog.underlying 84 with | some (.array _ _) | some (.struct _) => true | _ => false) = true := by rw [Tryz.underlying84]
set_option maxRecDepth 100000 in
theorem lawStep : Go.WideMaps.KeyLaw Tryz.prog 84 := deep_law_laid laidOutK (m := 2) (by omega) rowStep (by kernel_rfl) wideStep
theorem deepStep : Tryz.prog.keyTypeAt (Tryz.prog.types.size + 1) 84 = true := by kernel_rfl
theorem cellsStep : Tryz.prog.cellsOf 84 = 2 := by kernel_rfl
theorem formedStep (c0 c1 : Value) : (Value.agg #[c0, c1]).formed Tryz.prog 84 = true := by simp [Value.formed, Tryz.underlying84, cellsStep]

set_option maxRecDepth 100000 in
theorem keyStep (x : S) (h : okS x) : ∃ l, keyOf Tryz.prog 84 (encSv x) = some l := by
  have t0 := shut_int (H := Unit) (enc := fun _ => ()) (P := Tryz.prog) (w := default) (base := 0) (spare := fun _ => true) (held := true) Tryz.underlying3 h.1
  have t1 := shut_int (H := Unit) (enc := fun _ => ()) (P := Tryz.prog) (w := default) (base := 0) (spare := fun _ => true) (held := true) Tryz.underlying3 h.2
  have h2 := Go.Joins.shut_agg2 (y0 := (.lit (.int .i64 x.1), [])) (y1 := (.lit (.int .i64 x.2), [])) Tryz.underlying84 (by kernel_rfl) cellsStep t0 t1
  exact ⟨_, (keyOf_asKey deepStep wideStep (formedStep _ _) h2).1⟩

theorem encStep : KeyEnc Tryz.prog 84 encSv okS where
  K := Go.Maps.Keyed.of_law lawStep
  key := keyStep
  inj x y h := by
    obtain ⟨x1, x2⟩ := x; obtain ⟨y1, y2⟩ := y
    unfold encSv at h
    simp only [Value.agg.injEq, Array.mk.injEq, List.cons.injEq, Value.int.injEq, true_and, and_true] at h
    rw [h.1, h.2]

def encU (_ : Unit) : Value := .agg #[]
theorem zeroUnit (w : World) : (zeroValue 75).run Tryz.prog w = .ok (.agg #[]) w := by kernel_rfl
end Go.Proofs.YtclannenknhfpaaGreatDoor

namespace Go.Proofs.YtclannenknhfpaaGreatDoor
open Go.RowKit Go.ChangeShapes Pl

def encEv (x : E) : Value := .agg #[.int .i64 x.1, .int .i64 x.2.1, .int .i64 x.2.2]
def okE (x : E) : Prop := (Lit.int .i64 x.1).wf = true ∧ (Lit.int .i64 x.2.1).wf = true ∧ (Lit.int .i64 x.2.2).wf = true
theorem rowEdg : (58 : TypeId) < Tryz.prog.types.size := of_decide_eq_true (by kernel_rfl)
theorem wideEdg : (match Tryz.prog.underlying 58 with | some (.array _ _) | some (.struct _) => true | _ => false) = true := by rw [Tryz.underlying58]
set_option maxRecDepth 100000 in
theorem lawEdg : Go.WideMaps.KeyLaw Tryz.prog 58 := deep_law_laid laidOutK (m := 2) (by omega) rowEdg (by kernel_rfl) wideEdg
theorem deepEdg : Tryz.prog.keyTypeAt (Tryz.prog.types.size + 1) 58 = true := by kernel_rfl
theorem cellsEdg : Tryz.prog.cellsOf 58 = 3 := by kernel_rfl
theorem formedEdg (c0 c1 c2 : Value) : (Value.agg #[c0, c1, c2]).formed Tryz.prog 58 = true := by simp [Value.formed, Tryz.underlying58, cellsEdg]
set_option maxRecDepth 100000 in
theorem keyEdg (x : E) (h : okE x) : ∃ l, keyOf Tryz.prog 58 (encEv x) = some l := by
  have t0 := shut_int (H := Unit) (enc := fun _ => ()) (P := Tryz.prog) (w := default) (base := 0) (spare := fun _ => true) (held := true) Tryz.underlying3 h.1
  have t1 := shut_int (H := Unit) (enc := fun _ => ()) (P := Tryz.prog) (w := default) (base := 0) (spare := fun _ => true) (held := true) Tryz.underlying3 h.2.1
  have t2 := shut_int (H := Unit) (enc := fun _ => ()) (P := Tryz.prog) (w := default) (base := 0) (spare := fun _ => true) (held := true) Tryz.underlying3 h.2.2
  have h2 := Go.Joins.shut_agg3 (y0 := (.lit (.int .i64 x.1), [])) (y1 := (.lit (.int .i64 x.2.1), [])) (y2 := (.lit (.int .i64 x.2.2), [])) Tryz.underlying58 (by kernel_rfl) cellsEdg t0 t1 t2
  exact ⟨_, (keyOf_asKey deepEdg wideEdg (formedEdg _ _ _) h2).1⟩
theorem encEdg : KeyEnc Tryz.prog 58 encEv okE where
  K := Go.Maps.Keyed.of_law lawEdg
  key := keyEdg
  inj x y h := by
    obtain ⟨x1, x2, x3⟩ := x; obtain ⟨y1, y2, y3⟩ := y
    unfold encEv at h
    simp only [Value.agg.injEq, Array.mk.injEq, List.cons.injEq, Value.int.injEq, true_and, and_true] at h
    rw [h.1, h.2.1, h.2.2]
def encNv (x : Int) : Value := .int .i64 x
def okN (x : Int) : Prop := (Lit.int .i64 x).wf = true
theorem encNum : KeyEnc Tryz.prog 3 encNv okN where
  K := Go.Maps.int_keyed Tryz.underlying3
  key x h := ⟨_, Go.Maps.keyOf_int_mk Tryz.underlying3 h⟩
  inj x y h := by unfold encNv at h; simpa using h
theorem zeroNum (w : World) : (zeroValue 3).run Tryz.prog w = .ok (.int .i64 0) w := by kernel_rfl

/-- Rows stay where a map grows. -/
theorem Rws.mapPut {w0 w w' : World} {L : List Rw} {mb : Nat} (h : Rws w0 w L) (hg : w.grownBy w' (some mb)) (hm : ∃ es c, w.heap[mb]? = some (.map es c)) (hlo : w0.heap.size ≤ mb) : Rws w0 w' L := by
  refine ⟨h.bel.grown hg h.bel.size (fun k hk => by cases hk; exact hlo), fun r hr => own_blockR (h.own r hr) (fun g hgb => ?_), h.apart⟩
  have h1 := (h.own r hr).lt g hgb
  refine hg.block g h1.2 (fun e => ?_)
  obtain ⟨es, c, h2⟩ := hm
  obtain rfl := Option.some.inj e
  rcases (h.own r hr).2 with ⟨h3, _⟩ | ⟨g2, cap, cur, h3, _, h4, _⟩
  · rw [h3] at hgb; cases hgb
  · rw [h3] at hgb
    obtain rfl := Option.some.inj hgb
    rw [h2] at h4; cases h4
end Go.Proofs.YtclannenknhfpaaGreatDoor

namespace Go.Proofs.YtclannenknhfpaaGreatDoor
open Go.RowKit Pl

/-- The place of each state, the first i being laid: 0: none. -/
def plc (D : List Nat) (i j : Nat) : Int := if j ∈ D.take i then (D.idxOf j : Int) + 1 else 0
theorem plc_nil (D : List Nat) (j : Nat) : plc D 0 j = 0 := by simp [plc]
theorem idxOf_at {D : List Nat} (hn : D.Nodup) {i k : Nat} (hk : D[i]? = some k) : D.idxOf k = i := by
  obtain ⟨hl, rfl⟩ := List.getElem?_eq_some_iff.1 hk
  exact hn.idxOf_getElem i hl
theorem plc_snoc {D : List Nat} (hn : D.Nodup) {i k : Nat} (hk : D[i]? = some k) (j : Nat) : plc D (i + 1) j = if j = k then (i : Int) + 1 else plc D i j := by
  have ht := take_snoc hk
  unfold plc
  rw [ht]
  by_cases e : j = k
  · subst e; simp [idxOf_at hn hk]
  · simp [e]
theorem plc_free {D : List Nat} (hn : D.Nodup) {i k : Nat} (hk : D[i]? = some k) : plc D i k = 0 := by
  unfold plc
  rw [if_neg]
  intro h
  obtain ⟨j, hj, he⟩ := List.mem_iff_getElem.1 h
  have hj2 : j < i := by rw [List.length_take] at hj; omega
  rw [List.getElem_take] at he
  have h1 : D[j]? = some k := by rw [← he]; exact List.getElem?_eq_getElem _
  have h2 := idxOf_at hn h1
  have h3 := idxOf_at hn hk
  omega
theorem plc_all {D : List Nat} {m : Nat} (hl : D.length ≤ m) {j : Nat} (h : j ∈ D) : plc D m j = (D.idxOf j : Int) + 1 := by
  unfold plc
  rw [if_pos (by rw [List.take_of_length_le hl]; exact h)]
theorem plc_rng (D : List Nat) (i j : Nat) : 0 ≤ plc D i j ∧ plc D i j ≤ D.length := by
  unfold plc
  split
  · rename_i h
    have := List.idxOf_lt_length_of_mem (List.mem_of_mem_take h)
    omega
  · omega
/-- What a silent step leads to stands ahead. -/
theorem plc_down {t : Lts} (hr : t.Right) (hs : Srt ltE t.es) {m : Nat} {D : List Nat} (hD : OrdL t m D) (hl : D.length ≤ m) {x y : Nat} (hx : x ∈ D) (h : tau t x y) : plc D m y < plc D m x := by
  have hi := List.idxOf_lt_length_of_mem hx
  have h1 : D[D.idxOf x]? = some x := by rw [List.getElem?_eq_getElem hi]; exact congrArg some (List.getElem_idxOf hi)
  have h2 := hD.ahead hr hs _ _ _ h1 h
  rw [plc_all hl hx, plc_all hl (List.mem_of_mem_take h2)]
  obtain ⟨j, hj, he⟩ := List.mem_iff_getElem.1 h2
  have hj2 : j < D.idxOf x := by rw [List.length_take] at hj; omega
  rw [List.getElem_take] at he
  have h3 : D[j]? = some y := by rw [← he]; exact List.getElem?_eq_getElem _
  have h4 := idxOf_at hD.nodup h3
  omega

theorem memK_self {m k : Nat} (hk : k < m) : memK ((List.range m).map Int.ofNat) m (k : Int) = [(k : Int)] := by
  have h : ∀ j : Nat, k < j → j ≤ m → memK ((List.range m).map Int.ofNat) j (k : Int) = [(k : Int)] := by
    have h0 : ∀ j : Nat, j ≤ k → memK ((List.range m).map Int.ofNat) j (k : Int) = [] := by
      intro j hj
      induction j with
      | zero => rfl
      | succ j ih =>
        rw [memK_snoc (x := (j : Int)) (by rw [List.getElem?_map, List.getElem?_range (by omega)]; rfl), if_neg (by omega), ih (by omega)]
    intro j
    induction j with
    | zero => intro h; omega
    | succ j ih =>
      intro h1 h2
      rw [memK_snoc (x := (j : Int)) (by rw [List.getElem?_map, List.getElem?_range (by omega)]; rfl)]
      by_cases e : j = k
      · subst e; rw [if_pos rfl, h0 j (Nat.le_refl _)]; rfl
      · rw [if_neg (by omega), ih (by omega) (by omega)]
  exact h m hk (Nat.le_refl _)
theorem flat_self {m : Nat} : ∀ D : List Nat, (∀ x ∈ D, x < m) → (D.flatMap fun k : Nat => memK ((List.range m).map Int.ofNat) m (k : Int)) = D.map Int.ofNat
  | [], _ => rfl
  | x :: D, h => by
    rw [List.flatMap_cons, memK_self (h x (by simp)), flat_self D (fun y hy => h y (by simp [hy]))]; rfl
theorem ord_len {t : Lts} {m : Nat} {D : List Nat} (hD : OrdL t m D) (ha : ∀ k, k < m → k ∈ D) : D.length = m := by
  have h1 := nodup_sub D (List.range m) hD.nodup (fun x hx => List.mem_range.2 (hD.rng x hx))
  have h2 := nodup_sub (List.range m) D List.nodup_range (fun x hx => ha x (List.mem_range.1 hx))
  simp at h1 h2
  omega

/-- A collapsed system's own classes: each state is one. -/
theorem self_cls {s : Lts} {n : Nat} {f : Nat → Int} (hr : s.Right) (hn : s.st = (n : Int)) (hc : Cyc s n f) {m : Nat} {g : Nat → Int} (hg : Cyc (col s (fl n (clf n f))) m g) : fl m (clf m g) = (List.range m).map Int.ofNat := by
  rw [← canon_fl]; exact col_apart hr hn hc hg
theorem self_col {s : Lts} {n : Nat} {f : Nat → Int} (hr : s.Right) (hn : s.st = (n : Int)) (hc : Cyc s n f) {m : Nat} (hm : (col s (fl n (clf n f))).st = (m : Int)) {g : Nat → Int} (hg : Cyc (col s (fl n (clf n f))) m g) :
    col (col s (fl n (clf n f))) (fl m (clf m g)) = col s (fl n (clf n f)) := by
  rw [self_cls hr hn hc hg]
  have h1 : (col s (fl n (clf n f))).st = ((dist (fl n (clf n f))).length : Int) := rfl
  rw [dist_clf_len] at h1
  obtain rfl : m = (dist (fl n f)).length := by omega
  exact col_col hr hn
end Go.Proofs.YtclannenknhfpaaGreatDoor

namespace Go.Proofs.YtclannenknhfpaaGreatDoor
namespace Pl

theorem nodup_subG {α : Type} [DecidableEq α] : ∀ (L M : List α), L.Nodup → (∀ x ∈ L, x ∈ M) → L.length ≤ M.length
  | [], M, _, _ => Nat.zero_le _
  | x :: L, M, hn, hs => by
    rw [List.nodup_cons] at hn
    have ih := nodup_subG L (M.erase x) hn.2 (fun y hy => (List.mem_erase_of_ne (fun e : y = x => hn.1 (e ▸ hy))).2 (hs y (List.mem_cons_of_mem _ hy)))
    have h1 := List.length_erase_of_mem (hs x (by simp))
    have h2 := List.length_pos_of_mem (hs x (by simp))
    rw [List.length_cons]; omega
theorem srtS_nodup {L : List S} (h : Srt ltS L) : L.Nodup := List.Pairwise.imp (fun {a b} hab e => by subst e; rw [stoS.irrefl] at hab; cases hab) h
/-- A signature is no longer than the edges. -/
theorem SigOk.len {s : Lts} {C : Nat → Int} {p : Nat} {L : List S} (h : SigOk s C p L) : L.length ≤ s.es.length := by
  have h1 := nodup_subG L (s.es.map (fun e => (e.2.1, C e.2.2.toNat))) (srtS_nodup h.srt) (fun x hx => by
    obtain ⟨l, e⟩ := x
    obtain ⟨q, t, _, h2, h3, _⟩ := ((h.mem l e).1 hx).way
    exact List.mem_map.2 ⟨((q : Int), l, (t : Int)), h2, by simp only [Int.toNat_natCast]; rw [h3]⟩)
  rwa [List.length_map] at h1
/-- What stands in a signature. -/
theorem SigOk.rng {s : Lts} (hr : s.Right) {n : Nat} (hn : s.st = (n : Int)) {C : Nat → Int} {p : Nat} {L : List S} (h : SigOk s C p L) {x : S} (hx : x ∈ L) : 0 ≤ x.1 ∧ x.1 < s.lb ∧ ∃ t, t < n ∧ x.2 = C t := by
  obtain ⟨l, e⟩ := x
  obtain ⟨q, t, _, h2, h3, _⟩ := ((h.mem l e).1 hx).way
  have h4 := stp_lt hr hn h2
  exact ⟨h4.2.2.1, h4.2.2.2, t, h4.2.1, h3.symm⟩
theorem outs_leB (s : Lts) (p : Int) : (s.outs p).length ≤ s.es.length := by
  unfold Lts.outs
  rw [List.length_map]; exact List.length_filter_le _ _
theorem share_len {C : Nat → Int} {F : Nat → List S} {p k : Nat} (hk : 1 ≤ k) (hF : ∀ t, (F t).length ≤ k) : ∀ L : List S, (L.flatMap (shareB C F p)).length ≤ L.length * k
  | [] => by simp
  | x :: L => by
    have ih := share_len (p := p) hk hF L (C := C)
    have h1 : (shareB C F p x).length ≤ k := by
      unfold shareB
      split
      · exact hF _
      · simpa using hk
    rw [List.flatMap_cons, List.length_append, List.length_cons, Nat.succ_mul]
    omega
/-- The classes at first. -/
theorem canon_zeroB (n : Nat) : canon (fl n (fun _ => 0)) = fl n (fun _ => 0) := by
  rw [canon_fl]
  unfold fl
  apply List.map_congr_left
  intro i hi
  have h1 := clf_rng (f := fun _ => (0 : Int)) (List.mem_range.1 hi)
  have h2 : (dist (fl n (fun _ => (0 : Int)))).length ≤ 1 := by
    have := nodup_subI (dist (fl n (fun _ => (0 : Int)))) [0] (nodup_dist _) (fun x hx => by
      obtain ⟨p, _, h⟩ := mem_dist_fl.1 hx
      simp [← h])
    simpa using this
  show clf n (fun _ => 0) i = 0
  omega
/-- The next classes are others: there are more of them. -/
theorem next_more {s : Lts} {n : Nat} {C D : Nat → Int} (hd : NextB s n C D) (h1 : canon (fl n C) = fl n C) (h2 : canon (fl n D) = fl n D) (hne : fl n D ≠ fl n C) : (dist (fl n C)).length < (dist (fl n D)).length := by
  have href : ∀ p q, p < n → q < n → D p = D q → C p = C q := fun p q hp hq e => ((hd p q hp hq).1 e).1
  by_cases h : ∀ p q, p < n → q < n → C p = C q → D p = D q
  · exact absurd (canon_same_list h2 h1 (fun p q hp hq => ⟨href p q hp hq, h p q hp hq⟩)) hne
  · have : ∃ a b, a < n ∧ b < n ∧ C a = C b ∧ D a ≠ D b := by
      apply Classical.byContradiction
      intro hno
      exact h (fun p q hp hq e => Classical.byContradiction (fun e2 => hno ⟨p, q, hp, hq, e, e2⟩))
    obtain ⟨a, b, ha, hb, e1, e2⟩ := this
    exact more_classes href ha hb e1 e2
theorem fl_inj {n : Nat} {f g : Nat → Int} (h : fl n f = fl n g) {p : Nat} (hp : p < n) : f p = g p := by
  have h1 := fl_get f hp
  rw [h, fl_get g hp] at h1
  exact (Option.some.inj h1).symm
theorem still_done {s : Lts} {n : Nat} {C D : Nat → Int} (hd : NextB s n C D) (he : fl n D = fl n C) : Still s n C := fun p q hp hq e _ _ hs =>
  (((hd p q hp hq).1 (by rw [fl_inj he hp, fl_inj he hq]; exact e)).2 _ _).1 hs

/-! the numbers of texts -/
/-- A text's code: where it stands among the texts. -/
def codeT (T : List (List UInt8)) (z : List UInt8) : Int := (T.idxOf z : Int)
theorem codeT_inj {T : List (List UInt8)} {y z : List UInt8} (hy : y ∈ T) (hz : z ∈ T) (h : codeT T y = codeT T z) : y = z := by
  unfold codeT at h
  have h1 := List.getElem_idxOf (List.idxOf_lt_length_of_mem hy)
  have h2 := List.getElem_idxOf (List.idxOf_lt_length_of_mem hz)
  rw [← h1, ← h2]
  congr 1
  omega
/-- The number that the map tells of a text. -/
def numT (T : List (List UInt8)) (D : List Int) (z : List UInt8) : Option Int := if z ∈ T ∧ codeT T z ∈ D then some (D.idxOf (codeT T z) : Int) else none
theorem numT_nil (T : List (List UInt8)) (z : List UInt8) : numT T [] z = none := by unfold numT; simp
theorem numT_push {T : List (List UInt8)} {D : List Int} {y : List UInt8} (hy : y ∈ T) (hD : codeT T y ∉ D) (z : List UInt8) : (if z = y then some (D.length : Int) else numT T D z) = numT T (D ++ [codeT T y]) z := by
  unfold numT
  by_cases e : z = y
  · subst e
    rw [if_pos rfl, if_pos ⟨hy, by simp⟩, List.idxOf_append]
    simp [hD]
  · rw [if_neg e]
    by_cases hz : z ∈ T
    · have hne : codeT T z ≠ codeT T y := fun h => e (codeT_inj hz hy h)
      by_cases h : codeT T z ∈ D
      · rw [if_pos ⟨hz, h⟩, if_pos ⟨hz, by simp [h]⟩, List.idxOf_append]
        simp [h]
      · rw [if_neg (fun k => h k.2), if_neg]
        rintro ⟨_, k⟩
        rcases List.mem_append.1 k with k | k
        · exact h k
        · simp at k; exact hne k
    · rw [if_neg (fun k => hz k.1), if_neg (fun k => hz k.1)]
/-- The texts of a round, and each state's code. -/
def txtL (n : Nat) (C : Nat → Int) (F : Nat → List S) : List (List UInt8) := (List.range n).map (fun p => textB (C p) (F p))
theorem txtL_mem {n : Nat} {C : Nat → Int} {F : Nat → List S} {p : Nat} (hp : p < n) : textB (C p) (F p) ∈ txtL n C F := List.mem_map.2 ⟨p, List.mem_range.2 hp, rfl⟩
def cdG (n : Nat) (C : Nat → Int) (F : Nat → List S) (p : Nat) : Int := codeT (txtL n C F) (textB (C p) (F p))
theorem cdG_eq {n : Nat} {C : Nat → Int} {F : Nat → List S} {p q : Nat} (hp : p < n) (hq : q < n) : cdG n C F p = cdG n C F q ↔ textB (C p) (F p) = textB (C q) (F q) :=
  ⟨codeT_inj (txtL_mem hp) (txtL_mem hq), fun h => by unfold cdG; rw [h]⟩
end Pl
end Go.Proofs.YtclannenknhfpaaGreatDoor

namespace Go.Proofs.YtclannenknhfpaaGreatDoor
namespace Pl

/-- A step by a label, or none for the silent one. -/
def one (s : Lts) (m : Nat) (l : Int) (t : Nat) : Prop := (l = 0 ∧ t = m) ∨ (l ≠ 0 ∧ stp s m l t)
/-- A weak step. -/
def wst (s : Lts) (p : Nat) (l : Int) (q : Nat) : Prop := ∃ m t, TR s p m ∧ one s m l t ∧ TR s t q

section
variable {s : Lts} {n : Nat}
theorem wst_zero {p q : Nat} : wst s p 0 q ↔ TR s p q := by
  constructor
  · rintro ⟨m, t, h1, h2, h3⟩
    rcases h2 with ⟨_, rfl⟩ | ⟨h, _⟩
    · exact h1.trans h3
    · exact absurd rfl h
  · intro h
    exact ⟨p, p, .refl, .inl ⟨rfl, rfl⟩, h⟩
theorem wst_ne {p q : Nat} {l : Int} (hl : l ≠ 0) : wst s p l q ↔ ∃ m t, TR s p m ∧ stp s m l t ∧ TR s t q := by
  constructor
  · rintro ⟨m, t, h1, h2, h3⟩
    rcases h2 with ⟨h, _⟩ | ⟨_, h⟩
    · exact absurd h hl
    · exact ⟨m, t, h1, h, h3⟩
  · rintro ⟨m, t, h1, h2, h3⟩
    exact ⟨m, t, h1, .inr ⟨hl, h2⟩, h3⟩
theorem wst_pre {p m q : Nat} {l : Int} (h : TR s p m) (h2 : wst s m l q) : wst s p l q := by
  obtain ⟨a, b, h3, h4, h5⟩ := h2
  exact ⟨a, b, h.trans h3, h4, h5⟩
theorem wst_post {p q r : Nat} {l : Int} (h : wst s p l q) (h2 : TR s q r) : wst s p l r := by
  obtain ⟨a, b, h3, h4, h5⟩ := h
  exact ⟨a, b, h3, h4, h5.trans h2⟩
theorem TR.ltW (hr : s.Right) (hn : s.st = (n : Int)) {p q : Nat} (h : TR s p q) (hp : p < n) : q < n := by
  cases h with
  | refl => exact hp
  | tail _ h2 => exact (tau_lt hr hn h2).2
theorem wst_lt (hr : s.Right) (hn : s.st = (n : Int)) {p q : Nat} {l : Int} (h : wst s p l q) (hp : p < n) : q < n ∧ 0 ≤ l ∧ l < s.lb := by
  obtain ⟨a, b, h3, h4, h5⟩ := h
  rcases h4 with ⟨rfl, rfl⟩ | ⟨_, h4⟩
  · have := hr.st0
    exact ⟨h5.ltW hr hn (h3.ltW hr hn hp), by omega, by omega⟩
  · have := stp_lt hr hn h4
    exact ⟨h5.ltW hr hn this.2.1, this.2.2.1, this.2.2.2⟩
end

/-! the saturated system -/
/-- What tells the weak steps. -/
def KOk (s : Lts) (n lb : Nat) (K : Nat → Nat → Nat → Bool) : Prop := ∀ p l q, p < n → l < lb → q < n → (K p l q = true ↔ wst s p (l : Int) q)
/-- The edges of the weak steps, in order. -/
def satE (n lb : Nat) (K : Nat → Nat → Nat → Bool) : List E := (List.range n).flatMap fun p => (List.range lb).flatMap fun l => (idsN (K p l) n).map fun q : Nat => ((p : Int), (l : Int), (q : Int))
def satS (s : Lts) (n lb : Nat) (K : Nat → Nat → Nat → Bool) : Lts := ⟨s.st, s.lb, s.s0, satE n lb K⟩

section
variable {s : Lts} {n lb : Nat} {K : Nat → Nat → Nat → Bool}
theorem mem_satE {x : E} : x ∈ satE n lb K ↔ ∃ p l q : Nat, x = ((p : Int), (l : Int), (q : Int)) ∧ p < n ∧ l < lb ∧ q < n ∧ K p l q = true := by
  unfold satE
  simp only [List.mem_flatMap, List.mem_map, List.mem_range, mem_idsN]
  constructor
  · rintro ⟨p, hp, l, hl, q, ⟨hq, hk⟩, rfl⟩
    exact ⟨p, l, q, rfl, hp, hl, hq, hk⟩
  · rintro ⟨p, l, q, rfl, hp, hl, hq, hk⟩
    exact ⟨p, hp, l, hl, q, ⟨hq, hk⟩, rfl⟩
theorem satE_srt : Srt ltE (satE n lb K) := by
  have hr : ∀ m, (List.range m).Pairwise (· < ·) := fun m => List.pairwise_lt_range
  unfold satE Srt
  rw [List.pairwise_flatMap]
  refine ⟨fun p _ => ?_, (hr n).imp ?_⟩
  · rw [List.pairwise_flatMap]
    refine ⟨fun l _ => ?_, (hr lb).imp ?_⟩
    · rw [List.pairwise_map]
      refine List.Pairwise.imp ?_ (List.Pairwise.sublist List.filter_sublist (hr n))
      intro a b hab
      exact (ltE_iff _ _).2 (.inr ⟨rfl, .inr ⟨rfl, by show (a : Int) < (b : Int); omega⟩⟩)
    · intro a b hab x hx y hy
      obtain ⟨c, _, rfl⟩ := List.mem_map.1 hx
      obtain ⟨d, _, rfl⟩ := List.mem_map.1 hy
      exact (ltE_iff _ _).2 (.inr ⟨rfl, .inl (by show (a : Int) < (b : Int); omega)⟩)
  · intro a b hab x hx y hy
    obtain ⟨l, _, hx⟩ := List.mem_flatMap.1 hx
    obtain ⟨c, _, rfl⟩ := List.mem_map.1 hx
    obtain ⟨l', _, hy⟩ := List.mem_flatMap.1 hy
    obtain ⟨d, _, rfl⟩ := List.mem_map.1 hy
    exact (ltE_iff _ _).2 (.inl (by show (a : Int) < (b : Int); omega))
theorem stp_sat (hr : s.Right) (hn : s.st = (n : Int)) (hlb : s.lb = (lb : Int)) (hK : KOk s n lb K) {p q : Nat} {l : Int} : stp (satS s n lb K) p l q ↔ p < n ∧ wst s p l q := by
  unfold stp satS
  simp only
  rw [mem_satE]
  constructor
  · rintro ⟨a, b, c, e, ha, hb, hc, hk⟩
    simp only [Prod.mk.injEq] at e
    obtain ⟨e1, rfl, e3⟩ := e
    obtain rfl : p = a := by omega
    obtain rfl : q = c := by omega
    exact ⟨ha, (hK _ _ _ ha hb hc).1 hk⟩
  · rintro ⟨hp, hw⟩
    have h := wst_lt hr hn hw hp
    obtain ⟨b, rfl⟩ := Int.eq_ofNat_of_zero_le h.2.1
    exact ⟨p, b, q, rfl, hp, by omega, h.1, (hK _ _ _ hp (by omega) h.1).2 hw⟩
theorem satS_right (hr : s.Right) (hn : s.st = (n : Int)) (hlb : s.lb = (lb : Int)) (hl : (satE n lb K).length ≤ 10000) : (satS s n lb K).Right := by
  have h := hr.st0
  refine ⟨?_, fun x hx => ?_⟩
  · unfold HeadBad satS
    simp only
    omega
  · obtain ⟨p, l, q, rfl, h1, h2, h3, _⟩ := (mem_satE (n := n) (lb := lb) (K := K)).1 hx
    rw [offB_false]
    simp only [satS]
    omega
theorem tr_sat (hr : s.Right) (hn : s.st = (n : Int)) (hlb : s.lb = (lb : Int)) (hK : KOk s n lb K) {p q : Nat} (hp : p < n) : TR (satS s n lb K) p q ↔ TR s p q := by
  constructor
  · intro h
    induction h with
    | refl => exact .refl
    | tail _ h2 ih => exact ih.trans (wst_zero.1 ((stp_sat hr hn hlb hK).1 h2).2)
  · intro h
    exact TR.one ((stp_sat hr hn hlb hK).2 ⟨hp, wst_zero.2 h⟩)
/-- The saturated system is its own. -/
theorem wst_sat (hr : s.Right) (hn : s.st = (n : Int)) (hlb : s.lb = (lb : Int)) (hK : KOk s n lb K) {p q : Nat} {l : Int} (hp : p < n) : wst (satS s n lb K) p l q ↔ wst s p l q := by
  constructor
  · rintro ⟨m, t, h1, h2, h3⟩
    have h1' := (tr_sat hr hn hlb hK hp).1 h1
    have hm := h1'.ltW hr hn hp
    rcases h2 with ⟨rfl, rfl⟩ | ⟨hl, h2⟩
    · exact ⟨t, t, h1', .inl ⟨rfl, rfl⟩, (tr_sat hr hn hlb hK hm).1 h3⟩
    · have h4 := ((stp_sat hr hn hlb hK).1 h2).2
      have h5 := wst_lt hr hn h4 hm
      exact wst_post (wst_pre h1' h4) ((tr_sat hr hn hlb hK h5.1).1 h3)
  · intro h
    have hq := (wst_lt hr hn h hp).1
    by_cases hl : l = 0
    · subst hl
      exact wst_zero.2 ((tr_sat hr hn hlb hK hp).2 (wst_zero.1 h))
    · exact (wst_ne hl).2 ⟨p, q, .refl, (stp_sat hr hn hlb hK).2 ⟨hp, h⟩, .refl⟩
theorem satE_congr {K' : Nat → Nat → Nat → Bool} (h : ∀ p l q, p < n → l < lb → q < n → K p l q = K' p l q) : satE n lb K = satE n lb K' := by
  refine srt_ext stoE _ _ satE_srt satE_srt (fun x => ?_)
  rw [mem_satE, mem_satE]
  constructor <;> rintro ⟨p, l, q, rfl, hp, hl, hq, hk⟩ <;> refine ⟨p, l, q, rfl, hp, hl, hq, ?_⟩
  · rw [← h p l q hp hl hq]; exact hk
  · rw [h p l q hp hl hq]; exact hk
theorem KOk.eq {K' : Nat → Nat → Nat → Bool} (h : KOk s n lb K) (h' : KOk s n lb K') : satE n lb K = satE n lb K' :=
  satE_congr (fun p l q hp hl hq => by
    have h1 := h p l q hp hl hq
    have h2 := h' p l q hp hl hq
    cases e : K p l q <;> cases e' : K' p l q
    · rfl
    · rw [e'] at h2; rw [e] at h1; exact absurd (h1.2 (h2.1 rfl)) (by simp)
    · rw [e'] at h2; rw [e] at h1; exact absurd (h2.2 (h1.1 rfl)) (by simp)
    · rfl)
theorem sat_sat (hr : s.Right) (hn : s.st = (n : Int)) (hlb : s.lb = (lb : Int)) (hK : KOk s n lb K) {K' : Nat → Nat → Nat → Bool} (hK' : KOk (satS s n lb K) n lb K') : satE n lb K' = satE n lb K :=
  KOk.eq (s := s) (fun p l q hp hl hq => by rw [hK' p l q hp hl hq, wst_sat hr hn hlb hK hp]) hK
end

/-! strong bisimilarity by rounds -/
/-- The next classes: who is together and has steps by the same labels into the same classes. -/
def NextS (u : Nat → Int → Nat → Prop) (n : Nat) (C D : Nat → Int) : Prop :=
  ∀ p q, p < n → q < n → (D p = D q ↔ C p = C q ∧ ∀ l e, (∃ t, t < n ∧ u p l t ∧ C t = e) ↔ (∃ t, t < n ∧ u q l t ∧ C t = e))
def HoldsS (s : Lts) (n : Nat) (C : Nat → Int) : Prop := ∀ R, IsBis s n R → ∀ p q, p < n → q < n → R p q → C p = C q
section
variable {s : Lts} {n : Nat} {C D : Nat → Int}
theorem HoldsS.zero : HoldsS s n (fun _ => 0) := fun _ _ _ _ _ _ _ => rfl
theorem HoldsS.next (h : HoldsS s n C) (hd : NextS (stp s) n C D) : HoldsS s n D := fun R hR p q hp hq e => by
  refine (hd p q hp hq).2 ⟨h R hR p q hp hq e, fun l c => ?_⟩
  obtain ⟨h1, h2⟩ := hR p q hp hq e
  constructor
  · rintro ⟨t, ht, hs, rfl⟩
    obtain ⟨u, hu, h3, h4⟩ := h1 l t ht hs
    exact ⟨u, hu, h3, (h R hR t u ht hu h4).symm⟩
  · rintro ⟨t, ht, hs, rfl⟩
    obtain ⟨u, hu, h3, h4⟩ := h2 l t ht hs
    exact ⟨u, hu, h3, h R hR u t hu ht h4⟩
theorem HoldsS.done (h : HoldsS s n C) (hd : NextS (stp s) n C D) (he : ∀ p, p < n → D p = C p) : Big s n C where
  bis p q hp hq e := by
    have h1 := ((hd p q hp hq).1 (by rw [he p hp, he q hq]; exact e)).2
    refine ⟨fun l t ht hs => ?_, fun l u hu hs => ?_⟩
    · obtain ⟨u, hu, h2, h3⟩ := (h1 l (C t)).1 ⟨t, ht, hs, rfl⟩
      exact ⟨u, hu, h2, h3.symm⟩
    · obtain ⟨t, ht, h2, h3⟩ := (h1 l (C u)).2 ⟨u, hu, hs, rfl⟩
      exact ⟨t, ht, h2, h3⟩
  all := h
theorem next_moreS {u : Nat → Int → Nat → Prop} (hd : NextS u n C D) (h1 : canon (fl n C) = fl n C) (h2 : canon (fl n D) = fl n D) (hne : fl n D ≠ fl n C) : (dist (fl n C)).length < (dist (fl n D)).length := by
  have href : ∀ p q, p < n → q < n → D p = D q → C p = C q := fun p q hp hq e => ((hd p q hp hq).1 e).1
  by_cases h : ∀ p q, p < n → q < n → C p = C q → D p = D q
  · exact absurd (canon_same_list h2 h1 (fun p q hp hq => ⟨href p q hp hq, h p q hp hq⟩)) hne
  · have : ∃ a b, a < n ∧ b < n ∧ C a = C b ∧ D a ≠ D b := by
      apply Classical.byContradiction
      intro hno
      exact h (fun p q hp hq e => Classical.byContradiction (fun e2 => hno ⟨p, q, hp, hq, e, e2⟩))
    obtain ⟨a, b, ha, hb, e1, e2⟩ := this
    exact more_classes href ha hb e1 e2
end

/-! branching bisimilarity lies within it -/
section
variable {s : Lts} {n lb : Nat} {K : Nat → Nat → Nat → Bool} {C : Nat → Int}
theorem via_tr {X : Nat → Prop} {p q : Nat} (h : Via s X p q) : TR s p q := by
  induction h with
  | refl => exact .refl
  | tail _ h2 _ ih => exact ih.tail h2
theorem br_tr (hr : s.Right) (hn : s.st = (n : Int)) (h : IsBr s n (fun p q => C p = C q)) {p p' : Nat} (hs : TR s p p') : ∀ q, q < n → C p = C q → ∃ q', q' < n ∧ TR s q q' ∧ C p' = C q' := by
  induction hs with
  | refl => exact fun q hq e => ⟨q, hq, .refl, e⟩
  | @tail a b h1 h2 ih =>
    intro q hq e
    obtain ⟨q1, hq1, h3, h4⟩ := ih q hq e
    have hab := tau_lt hr hn h2
    rcases h.fwd a q1 hab.1 hq1 h4 0 b hab.2 h2 with ⟨_, h5⟩ | ⟨q0, q', h5, h6, h7, h8⟩
    · exact ⟨q1, hq1, h3, h5⟩
    · exact ⟨q', h6, (h3.trans (via_tr h5)).tail h7, h8⟩
theorem br_wst (hr : s.Right) (hn : s.st = (n : Int)) (h : IsBr s n (fun p q => C p = C q)) {p p' : Nat} {l : Int} (hp : p < n) (hs : wst s p l p') {q : Nat} (hq : q < n) (e : C p = C q) : ∃ q', q' < n ∧ wst s q l q' ∧ C p' = C q' := by
  obtain ⟨m, t, h1, h2, h3⟩ := hs
  have hm := h1.ltW hr hn hp
  obtain ⟨q1, hq1, h4, h5⟩ := br_tr hr hn h h1 q hq e
  rcases h2 with ⟨rfl, rfl⟩ | ⟨hl, h2⟩
  · obtain ⟨q2, hq2, h6, h7⟩ := br_tr hr hn h h3 q1 hq1 h5
    exact ⟨q2, hq2, wst_zero.2 (h4.trans h6), h7⟩
  · have ht := (stp_lt hr hn h2).2.1
    rcases h.fwd m q1 hm hq1 h5 l t ht h2 with ⟨h6, _⟩ | ⟨q0, q', h6, h7, h8, h9⟩
    · exact absurd h6 hl
    · obtain ⟨q2, hq2, h10, h11⟩ := br_tr hr hn h h3 q' h7 h9
      exact ⟨q2, hq2, (wst_ne hl).2 ⟨q0, q', h4.trans (via_tr h6), h8, h10⟩, h11⟩
/-- Who is branching bisimilar is weakly bisimilar. -/
theorem br_weak (hr : s.Right) (hn : s.st = (n : Int)) (hlb : s.lb = (lb : Int)) (hK : KOk s n lb K) (hC : BrBig s n C) {D : Nat → Int} (hD : Big (satS s n lb K) n D) {p q : Nat} (hp : p < n) (hq : q < n) (e : C p = C q) : D p = D q := by
  have hb := hC.still.br hr hn
  refine hD.all (fun p q => C p = C q) (fun p q hp hq e => ⟨fun l t ht hs => ?_, fun l u hu hs => ?_⟩) p q hp hq e
  · obtain ⟨q', h1, h2, h3⟩ := br_wst hr hn hb hp ((stp_sat hr hn hlb hK).1 hs).2 hq e
    exact ⟨q', h1, (stp_sat hr hn hlb hK).2 ⟨hq, h2⟩, h3⟩
  · obtain ⟨q', h1, h2, h3⟩ := br_wst hr hn hb hq ((stp_sat hr hn hlb hK).1 hs).2 hp e.symm
    exact ⟨q', h1, (stp_sat hr hn hlb hK).2 ⟨hp, h2⟩, h3.symm⟩
end
end Pl
end Go.Proofs.YtclannenknhfpaaGreatDoor

/-
  system.Canon: the one form of a list.
  tauscc.walk.enter: a state is met.
  tauscc.walk.leave: a state is left; a cycle, if the state was its first.
  tauscc.walk.deeper: on to a state that was not met.
  tauscc.walk.from: what its rounds keep, and that each round keeps it.
-/
import Derived.Test.YtclannenknhfpaaGreatDoorGKit
import Derived.Test.YtclannenknhfpaaGreatDoorGPl5
import Derived.Maps.OwnSet
import Derived.Deep.DeepMust
import Derived.Test.YtclannenknhfpaaGreatDoorGCompact2
import Derived.BigRegion
import Derived.Deep.LoopGhost
import Derived.Test.YtclannenknhfpaaGreatDoorGGraphB
import Derived.Test.YtclannenknhfpaaGreatDoorGPl1
namespace Go.Proofs.YtclannenknhfpaaGreatDoor
open Go.RowKit Pl Go.Maps

theorem lawInt : Keyed Tryz.prog 3 := int_keyed Tryz.underlying3
theorem zeroInt (w : World) : (zeroValue 3).run Tryz.prog w = .ok (.int .i64 0) w := by kernel_rfl

/-- The map that Canon keeps: each number seen, at its place. -/
structure MapD (D : DataW Unit) (s : List Int) : Prop where
  has : ∀ x : Int, Maps.has D (.int .i64 x) = decide (x ∈ s)
  key : ∀ x ∈ s, D.atKey (.int .i64 x) (.lit (.int .i64 0)) = .lit (.int .i64 (s.idxOf x : Int))
  len : Maps.size D = s.length

theorem MapD.nil : MapD (.map []) [] := ⟨fun x => by simp [Maps.has], fun x h => by simp at h, rfl⟩
theorem MapD.push {D : DataW Unit} {s : List Int} {x : Int} (h : MapD D s) (ht : Tidy D) (hx : x ∉ s) : MapD (D.put (.int .i64 x) (.lit (.int .i64 (s.length : Int)))) (s ++ [x]) where
  has y := by
    by_cases e : y = x
    · subst e; rw [has_put_same (k := .int .i64 y) ht.isMap trivial]; simp
    · rw [has_put_other (by intro h; cases h; exact e rfl), h.has]; simp [e]
  key y hy := by
    by_cases e : y = x
    · subst e; rw [atKey_put_same (k := .int .i64 y) ht.isMap trivial, List.idxOf_append]; simp [hx]
    · have hys : y ∈ s := by simpa [e] using hy
      rw [atKey_put_other (by intro h; cases h; exact e rfl), h.key y hys, List.idxOf_append]; simp [hys]
  len := by rw [size_put ht, h.has]; simp [hx, h.len]

/-- A made row, filled, is owned. -/
theorem own_rowIs {w : World} {b n : Nat} {f : Nat → Value} {xs : List Int} (h : w.rowIs b 3 n f) (hl : xs.length = n) (hf : ∀ i x, xs[i]? = some x → f i = .int .i64 x) (hn : n ≤ maxLen) {base : Nat} (hb : base ≤ b) :
    w.ownsRow base 3 1 (.slice (some ⟨b, 0, none⟩) n n) n (xs.flatMap encI) := by
  obtain ⟨c, hh, hs, hc⟩ := h
  have hlen := length_flatMap lenI xs
  refine ⟨by omega, .inr ⟨b, n, c, rfl, hb, hh, Nat.le_refl _, hn, by omega, ?_⟩⟩
  rw [Nat.mul_one, List.take_of_length_le (by simp; omega)]
  apply List.ext_getElem?
  intro i
  by_cases hi : i < n
  · obtain ⟨x, hx⟩ := getElem?_of_lt (show i < xs.length by omega)
    have := getElem?_flatMap lenI xs i x hx 0 _ rfl
    rw [Array.getElem?_toList, hc i hi, hf i x hx]
    simpa using this.symm
  · rw [List.getElem?_eq_none (by simp; omega), List.getElem?_eq_none (by omega)]

/-- The row after k rounds. -/
def rowAtK (xs : List Int) (k : Nat) (j : Nat) : Value := .int .i64 (if j < k then ((dist xs).idxOf (xs.getD j 0) : Int) else 0)

theorem rowAtK_step {xs : List Int} {k : Nat} {x : Int} (hx : xs[k]? = some x) (i : Nat) : (if i = k then Value.int .i64 ((dist (xs.take (k + 1))).idxOf x : Int) else rowAtK xs k i) = rowAtK xs (k + 1) i := by
  unfold rowAtK
  by_cases e : i = k
  · subst e
    have hm : x ∈ xs.take (i + 1) := by rw [take_snoc hx]; simp
    rw [if_pos rfl, if_pos (by omega), List.getD_eq_getElem?_getD, hx, ← idx_append (xs.take (i + 1)) (xs.drop (i + 1)) hm, List.take_append_drop]; rfl
  · rw [if_neg e]
    by_cases h : i < k
    · rw [if_pos h, if_pos (by omega)]
    · rw [if_neg h, if_neg (by omega)]

set_option maxRecDepth 100000 in
set_option maxHeartbeats 2000000 in
theorem canon_any {w : World} {a : Option Addr} {b off c : Nat} {xs : List Int} (hS : SlAt encI 1 w a b off xs) (hn : xs.length ≤ 1000000) (hwf : ∀ x ∈ xs, (Lit.int .i64 x).wf = true) :
    Calls Tryz.prog 100 #[.slice a xs.length c] w fun e w' => ∃ v, e = .returned v ∧ w'.ownsRow w.heap.size 3 1 v xs.length ((canon xs).flatMap encI) ∧ Below w.heap.size w w' := by
  obtain ⟨n, hnn⟩ : ∃ n, n = xs.length := ⟨_, rfl⟩
  rw [← hnn] at hn ⊢
  have hmk := run_make_row' (P := Tryz.prog) 43 3 (.int .i64 0) 8 Tryz.underlying43 (by kernel_rfl) rfl .i64 .i64 n (by omega) (by omega)
  have hmm := @run_makeMap Tryz.prog
  have HS := Lib.hid hS; have HWF := Lib.hid hwf; have HNN := Lib.hid hnn
  clear hS hwf hnn
  go_enter Tryz.func100, Tryz.ntmps100
  go_wp2_with fail
  go_loopw [5, 6, 7, 8, 15] (fun _ _ _ _ i wr => ∃ (k : Nat) (D : DataW Unit), k ≤ n ∧ i = .int .i64 k ∧ MapD D (dist (xs.take k)) ∧ wr.ownsMap Tryz.prog 3 (plainElem Tryz.prog 3) w.heap.size k D ∧
      wr.rowIs (w.heap.size + 1) 3 n (rowAtK xs k) ∧ Below w.heap.size w wr)
    (fun _ _ _ _ i _ => n - (intOf i).toNat)
  case atStart =>
    refine ⟨0, .map [], Nat.zero_le _, rfl, by simpa [dist] using MapD.nil, (World.ownsMap_made _ _ _ _).alloc _, ?_, ((Below.refl _ _).alloc (Nat.le_refl _) _).alloc (by simp) _⟩
    have := World.rowIs_made (w.alloc (.map #[] 0)) (.int .i64 0) n 3
    exact (by simpa using this : World.rowIs _ (w.heap.size + 1) _ _ _).congr (fun i _ => by simp [rowAtK])
  case round =>
    obtain ⟨k, D, hk, rfl, hmd, hown, hrow, hB⟩ := hrel
    have hm := hown.size_le
    have hsz := hB.size
    have hrlt := hrow.lt
    have hmlt := hown.lt
    have HMD := Lib.hid hmd; have HOWN := Lib.hid hown; have HROW := Lib.hid hrow; have HB := Lib.hid hB
    clear hmd hown hrow hB
    by_cases hlt : k < n
    · obtain ⟨x, hx⟩ := getElem?_of_lt (xs := xs) (i := k) (by have := HNN.out; omega)
      obtain rfl := HS.out.ad (by have := HNN.out; omega)
      have hcx := (HS.out.below HB.out (Nat.le_refl _)).ci hx
      have hkey := keyOf_int_mk Tryz.underlying3 (HWF.out x (List.mem_of_getElem? hx))
      have hfr : wr.frozen? ⟨w.heap.size + 1, k, none⟩ = false := HROW.out.frozen k
      have hct := HROW.out.cell hlt
      have hkn : (k : Int) < (n : Int) := by omega
      have HX := Lib.hid hx
      clear hx
      by_cases hin : x ∈ dist (xs.take k)
      · have hh : Maps.has D (.int .i64 x) = true := by rw [HMD.out.has]; simp [hin]
        have HH := Lib.hid hh
        clear hh
        go_wp2_with (at_lookup; refine wpList_lookup_own_ok_int _ rfl _ _ 184 rfl 3 3 .i64 lawInt Tryz.underlying184 Tryz.underlying3 (zeroInt _) w.heap.size k D rfl HOWN.out _ _ rfl hkey ?_; intro cc hat hwc; rw [HH.out])
        have hcc : cc = (((dist (xs.take k)).idxOf x : Nat) : Int) := by
          have := HMD.out.key x hin
          rw [this] at hat
          simp only [DataW.lit.injEq, Lit.int.injEq] at hat
          exact hat.2.symm
        subst hcc
        have hd : dist (xs.take (k + 1)) = dist (xs.take k) := by rw [take_snoc HX.out, dist_snoc]; unfold addN; rw [if_pos hin]
        have hrw := (HROW.out.set k (.int .i64 ((dist (xs.take (k + 1))).idxOf x : Int))).congr (fun i _ => rowAtK_step HX.out i)
        rw [hd] at hrw
        have HD := Lib.hid hd; have HRW := Lib.hid hrw
        clear hd hrw
        go_roundw
        case rel => exact ⟨k + 1, D, by omega, by go_num, by rw [HD.out]; exact HMD.out, (HOWN.out.setCell (by simp) _).mono (Nat.le_succ _), HRW.out, HB.out.setCell (by simp) _⟩
        case measure => simp [intOf]; omega
      · have hh : Maps.has D (.int .i64 x) = false := by rw [HMD.out.has]; simp [hin]
        have HH := Lib.hid hh; have HIN := Lib.hid hin
        clear hh hin
        have hml := HMD.out.len
        have hdl : (dist (xs.take k)).length ≤ k := by omega
        have HML := Lib.hid hml
        clear hml
        go_wp2_with (first
          | (at_lookup; refine wpList_lookup_own_ok_int _ rfl _ _ 184 rfl 3 3 .i64 lawInt Tryz.underlying184 Tryz.underlying3 (zeroInt _) w.heap.size k D rfl HOWN.out _ _ rfl hkey ?_; intro cc hat hwc; rw [HH.out])
          | (at_len; refine wpList_len_own _ rfl _ 184 rfl 3 3 Tryz.underlying184 _ w.heap.size k D rfl HOWN.out ?_; rw [HML.out])
          | (at_mapUpdate; refine wpList_mapUpdate_own _ rfl _ _ _ 184 rfl 3 3 lawInt Tryz.underlying184 _ w.heap.size k D rfl HOWN.out (by unfold maxLen; omega) _ _ _ rfl rfl hkey _ [] (plainElem_int Tryz.underlying3 (WalkArith.wf_i64 (by omega))) ?_; intro w1 hown1 hgrow1; have hct1 := (HROW.out.of_block (hgrow1.block _ hrlt (by simp))).cell hlt; have hfr1 : w1.frozen? ⟨w.heap.size + 1, k, none⟩ = false := (HROW.out.of_block (hgrow1.block _ hrlt (by simp))).frozen k; have hrlt1 := (HROW.out.of_block (hgrow1.block _ hrlt (by simp))).lt))
        have hd : dist (xs.take (k + 1)) = dist (xs.take k) ++ [x] := by rw [take_snoc HX.out, dist_snoc]; unfold addN; rw [if_neg HIN.out]
        have hix : (dist (xs.take (k + 1))).idxOf x = (dist (xs.take k)).length := by rw [hd, List.idxOf_append]; simp [HIN.out]
        have hrow1 : w1.rowIs (w.heap.size + 1) 3 n (rowAtK xs k) := HROW.out.of_block (hgrow1.block _ hrlt (by simp))
        have hB1 := HB.out.grown hgrow1 hsz (fun j hj => by cases hj; exact Nat.le_refl _)
        have hmd1 := HMD.out.push (HOWN.out.tidy lawInt) HIN.out
        rw [← hd] at hmd1
        have hrw := (hrow1.set k (.int .i64 ((dist (xs.take (k + 1))).idxOf x : Int))).congr (fun i _ => rowAtK_step HX.out i)
        rw [hix] at hrw
        have HRW := Lib.hid hrw; have HB1 := Lib.hid hB1; have HMD1 := Lib.hid hmd1; have HOWN1 := Lib.hid hown1
        clear hd hix hrow1 hB1 hmd1 hrw hown1 hgrow1 hct hfr
        go_roundw
        case rel => exact ⟨k + 1, _, by omega, by go_num, HMD1.out, HOWN1.out.setCell (by simp) _, HRW.out, HB1.out.setCell (by simp) _⟩
        case measure => simp [intOf]; omega
    · obtain rfl : k = n := by omega
      go_wp2
      go_ret
      refine ⟨_, rfl, own_rowIs HROW.out (by rw [canon_len]; exact HNN.out.symm) ?_ (by unfold maxLen; omega) (by omega), HB.out⟩
      intro i x hx
      rw [canon_get] at hx
      obtain ⟨y, hy, rfl⟩ := Option.map_eq_some_iff.1 hx
      have hi := (List.getElem?_eq_some_iff.1 hy).1
      unfold rowAtK
      rw [if_pos (by have := HNN.out; omega), List.getD_eq_getElem?_getD, hy]; rfl
end Go.Proofs.YtclannenknhfpaaGreatDoor

namespace Go.Proofs.YtclannenknhfpaaGreatDoor
open Go.RowKit Pl

section
variable {w0 w : World} {B WB LB NB IB CB n : Nat} {gp : Value} {low num cls : Nat → Int} {iso : Nat → Bool} {met found : Int} {ol : List Int} {sl : List E} {vo vs : Value}

end
end Go.Proofs.YtclannenknhfpaaGreatDoor

namespace Go.Proofs.YtclannenknhfpaaGreatDoor
open Go.RowKit Pl

section
variable {w0 w : World} {B WB LB NB IB CB n : Nat} {gp : Value} {low num cls : Nat → Int} {iso : Nat → Bool} {met found : Int} {sl : List E} {vo vs : Value}

theorem upd_mem {β : Type} (f : Nat → β) (v : β) (z : Nat) (D : List Int) : upd (fun (i : Nat) => if (i : Int) ∈ D then v else f i) z v = fun (i : Nat) => if (i : Int) ∈ (z : Int) :: D then v else f i := by
  funext i
  unfold upd
  by_cases h : i = z
  · subst h; simp
  · rw [if_neg h]
    have : ((i : Int) ∈ (z : Int) :: D) ↔ (i : Int) ∈ D := by simp; omega
    simp only [this]

end
end Go.Proofs.YtclannenknhfpaaGreatDoor

namespace Go.Proofs.YtclannenknhfpaaGreatDoor
open Go.RowKit Pl

namespace Pl
theorem tw_get {α : Type} {p : α → Bool} : ∀ {l : List α} {k : Nat}, k < (l.takeWhile p).length → ∃ a, l[k]? = some a ∧ p a = true ∧ (l.takeWhile p)[k]? = some a
  | [], k, h => by simp at h
  | a :: l, k, h => by
    rw [List.takeWhile_cons] at h ⊢
    cases hp : p a with
    | false => rw [hp] at h; simp at h
    | true =>
      rw [hp] at h
      simp only [if_true] at h ⊢
      cases k with
      | zero => exact ⟨a, rfl, hp, rfl⟩
      | succ k =>
        obtain ⟨b, h1, h2, h3⟩ := tw_get (l := l) (k := k) (by simpa using h)
        exact ⟨b, by simpa using h1, h2, by simpa using h3⟩
theorem tw_end {α : Type} {p : α → Bool} : ∀ (l : List α), (l.takeWhile p).length = l.length ∨ ∃ a, l[(l.takeWhile p).length]? = some a ∧ p a = false
  | [] => .inl rfl
  | a :: l => by
    rw [List.takeWhile_cons]
    cases hp : p a with
    | false => exact .inr ⟨a, by simp, hp⟩
    | true =>
      rcases tw_end (p := p) l with h | ⟨b, h1, h2⟩
      · left; simp [h]
      · right; exact ⟨b, by simpa using h1, h2⟩
theorem tw_le {α : Type} {p : α → Bool} (l : List α) : (l.takeWhile p).length ≤ l.length := by
  rcases tw_end (p := p) l with h | ⟨a, h1, _⟩
  · omega
  · have := (List.getElem?_eq_some_iff.1 h1).1; omega

theorem taus_get {s : Lts} {x k : Nat} (h : k < (taus s x).length) : ∃ st : S, (s.outs (x : Int))[k]? = some st ∧ st.1 = 0 ∧ (taus s x)[k]? = some st.2.toNat := by
  unfold taus at h ⊢
  rw [List.length_map] at h
  obtain ⟨a, h1, h2, h3⟩ := tw_get h
  exact ⟨a, h1, by simpa using h2, by rw [List.getElem?_map, h3]; rfl⟩
theorem taus_end (s : Lts) (x : Nat) : (taus s x).length = (s.outs (x : Int)).length ∨ ∃ st : S, (s.outs (x : Int))[(taus s x).length]? = some st ∧ st.1 ≠ 0 := by
  unfold taus
  rw [List.length_map]
  rcases tw_end (p := fun y : S => y.1 == 0) (s.outs (x : Int)) with h | ⟨a, h1, h2⟩
  · exact .inl h
  · exact .inr ⟨a, h1, by simpa using h2⟩
theorem taus_le (s : Lts) (x : Nat) : (taus s x).length ≤ (s.outs (x : Int)).length := by
  unfold taus; rw [List.length_map]; exact tw_le _
end Pl

theorem newV {w : World} {b : Nat} {t : TypeId} {e : E} (h : w.heap[b]? = some (.cells #[.int .i64 e.1, .int .i64 e.2.1, .int .i64 e.2.2] t (0, 0))) :
    ∀ j u, [Value.int .i64 e.1, .int .i64 e.2.1, .int .i64 e.2.2][j]? = some u → w.cell? ((⟨b, 0, none⟩ : Addr).add j) = some u :=
  cells3 (by simp [World.cell?, h]) (by simp [World.cell?, h]) (by simp [World.cell?, h])
theorem flat_set2 (sl0 : List E) (a b c c' : Int) : ((sl0 ++ [(a, b, c)]).flatMap encE).set (sl0.length * 3 + 2) (.int .i64 c') = (sl0 ++ [(a, b, c')]).flatMap encE := by
  rw [List.flatMap_append, List.flatMap_append, List.set_append, if_neg (by rw [length_flatMap lenE]; omega), length_flatMap lenE]
  rw [show sl0.length * 3 + 2 - sl0.length * 3 = 2 by omega]
  rfl
theorem flat_set1 (sl0 : List E) (a b c b' : Int) : ((sl0 ++ [(a, b, c)]).flatMap encE).set (sl0.length * 3 + 1) (.int .i64 b') = (sl0 ++ [(a, b', c)]).flatMap encE := by
  rw [List.flatMap_append, List.flatMap_append, List.set_append, if_neg (by rw [length_flatMap lenE]; omega), length_flatMap lenE]
  rw [show sl0.length * 3 + 1 - sl0.length * 3 = 1 by omega]
  rfl

section
variable {w0 w wr : World} {B WB LB NB IB CB n : Nat} {gp : Value} {low num cls : Nat → Int} {iso : Nat → Bool} {met found : Int} {ol : List Int} {sl : List E} {vo vs : Value}

end

end Go.Proofs.YtclannenknhfpaaGreatDoor

namespace Go.Proofs.YtclannenknhfpaaGreatDoor
open Go.RowKit Pl

/-- The stack of visits, the first state below. -/
def stkOf (K : List Nat) (nx : Nat → Nat) : List E := K.reverse.map (fun (z : Nat) => ((z : Int), (1 : Int), ((nx z : Nat) : Int)))
theorem stkOf_cons (x : Nat) (K : List Nat) (nx : Nat → Nat) : stkOf (x :: K) nx = stkOf K nx ++ [((x : Int), 1, ((nx x : Nat) : Int))] := by simp [stkOf]
theorem stkOf_congr {K : List Nat} {nx nx' : Nat → Nat} (h : ∀ z ∈ K, nx z = nx' z) : stkOf K nx = stkOf K nx' := by
  unfold stkOf
  apply List.map_congr_left
  intro z hz
  rw [h z (by simpa using hz)]
theorem stkOf_len (K : List Nat) (nx : Nat → Nat) : (stkOf K nx).length = K.length := by simp [stkOf]
theorem stkOf_nil (nx : Nat → Nat) : stkOf [] nx = [] := rfl

/-- Where the walk stands at the head of a round; the number: so many rounds are to come at most. -/
inductive FromSt (s : Lts) (n : Nat) (t : TS) : List E → Nat → Prop
  | done (nx : Nat → Nat) (k : Nat) : TI s n t [] nx → FromSt s n t [] k
  | seen (x : Nat) (K : List Nat) (nx : Nat → Nat) (k : Nat) : TI s n t (x :: K) nx → (∀ z ∈ x :: K, nx z ≤ (taus s z).length) → 3 * (n - t.met.toNat) + (K.length + 1) + 2 ≤ k → FromSt s n t (stkOf K nx ++ [((x : Int), 1, ((nx x : Nat) : Int))]) k
  | come (y : Nat) (K : List Nat) (nx nx' : Nat → Nat) (k : Nat) : TI s n t K nx → y < n → t.num y = 0 → (∀ g ∈ K, TR s g y) → (∀ x y', x ∈ K → y' ∈ (taus s x).take (nx' x) → y' = y ∨ y' ∈ (taus s x).take (nx x)) → (∀ z ∈ K, nx' z ≤ (taus s z).length) →
      3 * (n - t.met.toNat) + (K.length + 1) ≤ k → FromSt s n t (stkOf K nx' ++ [((y : Int), 0, 0)]) k

section
variable {s : Lts} {n : Nat} {t : TS} {K : List Nat} {nx nx' : Nat → Nat}

theorem Pl.TI.notin {x : Nat} (h : TI s n t (x :: K) nx) : x ∉ K := fun hh => by
  have := (List.pairwise_cons.1 h.gsrt).1 x hh; omega

theorem Pl.TI.opn_len (h : TI s n t K nx) : t.opn.length ≤ n := by
  have h1 : (t.opn.map Int.ofNat).Nodup := by
    unfold List.Nodup
    rw [List.pairwise_map]
    exact h.nd.imp (fun hab e => hab (Int.ofNat.inj e))
  have := nodup_len h1 (n := n) (fun x hx => by
    obtain ⟨i, hi, rfl⟩ := List.mem_map.1 hx
    have := h.opn_lt i hi
    show 0 ≤ (i : Int) ∧ (i : Int) < n; omega)
  simpa using this

/-- Deeper has found a state that was not met. -/
theorem FromSt.push {x y k : Nat} (h : TI s n t (x :: K) nx) (hr : s.Right) (hs : Srt ltE s.es) (hn : s.st = (n : Int)) (hy : (taus s x)[nx x]? = some y) (h0 : t.num y = 0) (hnx : ∀ z ∈ K, nx z ≤ (taus s z).length) (hk : 3 * (n - t.met.toNat) + (K.length + 2) ≤ k) :
    FromSt s n t (stkOf K nx ++ [((x : Int), 1, ((nx x + 1 : Nat) : Int))] ++ [((y : Int), 0, 0)]) k := by
  have hxK := h.notin
  have htx : tau s x y := (mem_taus hr hs).1 (List.mem_of_getElem? hy)
  have hlt := (List.getElem?_eq_some_iff.1 hy).1
  have e : stkOf K nx ++ [((x : Int), 1, ((nx x + 1 : Nat) : Int))] = stkOf (x :: K) (upd nx x (nx x + 1)) := by
    rw [stkOf_cons, upd_same, stkOf_congr (nx := upd nx x (nx x + 1)) (nx' := nx) (fun z hz => upd_other _ _ (fun e => hxK (e ▸ hz)))]
  rw [e]
  refine .come y (x :: K) nx _ k h (tau_lt hr hn htx).2 h0 (fun g hg => ?_) (fun x' y' hx' hy' => ?_) (fun z hz => ?_) (by simp; omega)
  · exact (h.tree g hg x (h.gin x List.mem_cons_self) (h.top g hg)).tail htx
  · by_cases e : x' = x
    · subst e
      rw [upd_same] at hy'
      obtain ⟨hl, hg⟩ := List.getElem?_eq_some_iff.1 hy
      rw [List.take_succ_eq_append_getElem hl, hg] at hy'
      rcases List.mem_append.1 hy' with h1 | h1
      · exact .inr h1
      · exact .inl (by simpa using h1)
    · rw [upd_other _ _ e] at hy'; exact .inr hy'
  · by_cases e : z = x
    · subst e; rw [upd_same]; omega
    · rw [upd_other _ _ e]
      rcases List.mem_cons.1 hz with h1 | h1
      · exact absurd h1 e
      · exact hnx z h1

theorem hall_of {x : Nat} (hr : s.Right) (hs : Srt ltE s.es) (he : nx x = (taus s x).length) : ∀ y, tau s x y → y ∈ (taus s x).take (nx x) := by
  intro y hy
  rw [he, List.take_length]
  exact (mem_taus hr hs).2 hy

/-- A state is left that is not the first of its cycle. -/
theorem FromSt.left1 {x g k : Nat} (h : TI s n t (x :: g :: K) nx) (hr : s.Right) (hs : Srt ltE s.es) (he : nx x = (taus s x).length) (hne : t.low x ≠ t.num x) (hnx : ∀ z ∈ g :: K, nx z ≤ (taus s z).length) (hk : 3 * (n - t.met.toNat) + (K.length + 1) + 2 ≤ k) :
    FromSt s n { t with low := upd t.low g (min (t.low g) (t.low x)) } (stkOf (g :: K) nx) k := by
  obtain ⟨g', K', e, h2⟩ := h.leave1 (hall_of hr hs he) hne
  simp only [List.cons.injEq] at e
  obtain ⟨rfl, rfl⟩ := e
  rw [stkOf_cons]
  exact .seen _ K nx k h2 hnx hk

/-- .. and the first of its cycle. -/
theorem FromSt.left2 {x k : Nat} (h : TI s n t (x :: K) nx) (hr : s.Right) (hs : Srt ltE s.es) (hn : s.st = (n : Int)) (he : nx x = (taus s x).length) (heq : t.low x = t.num x) {Pp Q : List Nat} (ho : t.opn = Pp ++ x :: Q) (hnx : ∀ z ∈ K, nx z ≤ (taus s z).length) (hk : 3 * (n - t.met.toNat) + K.length + 2 ≤ k) :
    FromSt s n { t with opn := Q, cls := fun i => if i ∈ Pp ++ [x] then t.found else t.cls i, found := t.found + 1 } (stkOf K nx) k ∧ (∀ g ∈ K, t.low g ≤ t.low x) := by
  obtain ⟨h2, h3⟩ := h.leave2 hr hn (hall_of hr hs he) heq ho
  refine ⟨?_, h3⟩
  cases K with
  | nil => exact .done nx k h2
  | cons g K' =>
    rw [stkOf_cons]
    exact .seen g K' nx k h2 hnx (by simp at hk ⊢; omega)

/-- The states that stand open, in memory. -/
theorem open_rev {x : Nat} {Pp Q : List Nat} (ho : t.opn = Pp ++ x :: Q) : t.opn.reverse.map Int.ofNat = Q.reverse.map Int.ofNat ++ [(x : Int)] ++ Pp.reverse.map Int.ofNat := by
  rw [ho]; simp
theorem mem_revI {l : List Nat} {i : Nat} : (i : Int) ∈ l.reverse.map Int.ofNat ↔ i ∈ l := by
  rw [List.mem_map]
  constructor
  · rintro ⟨j, hj, e⟩
    have : j = i := Int.ofNat.inj e
    subst this; simpa using hj
  · intro h; exact ⟨i, by simpa using h, rfl⟩
theorem cls_rev (x : Nat) (Pp : List Nat) (v : Int) (f : Nat → Int) : (fun (i : Nat) => if (i : Int) ∈ (x : Int) :: Pp.reverse.map Int.ofNat then v else f i) = fun i => if i ∈ Pp ++ [x] then v else f i := by
  funext i
  have : ((i : Int) ∈ (x : Int) :: Pp.reverse.map Int.ofNat) ↔ i ∈ Pp ++ [x] := by
    rw [List.mem_cons, mem_revI, List.mem_append, List.mem_singleton]
    constructor
    · rintro (h | h)
      · exact .inr (by omega)
      · exact .inl h
    · rintro (h | h)
      · exact .inr h
      · exact .inl (by omega)
  simp only [this]
theorem iso_rev {x : Nat} {Pp Q : List Nat} (hnd : t.opn.Nodup) (ho : t.opn = Pp ++ x :: Q) : (fun (i : Nat) => if (i : Int) ∈ (x : Int) :: Pp.reverse.map Int.ofNat then false else decide (i ∈ t.opn)) = fun (i : Nat) => decide (i ∈ Q) := by
  funext i
  rw [ho] at hnd ⊢
  have hd := List.nodup_append.1 hnd
  have hx := List.nodup_cons.1 hd.2.1
  have : ((i : Int) ∈ (x : Int) :: Pp.reverse.map Int.ofNat) ↔ i = x ∨ i ∈ Pp := by
    rw [List.mem_cons, mem_revI]
    constructor
    · rintro (h | h)
      · exact .inl (by omega)
      · exact .inr h
    · rintro (h | h)
      · exact .inl (by omega)
      · exact .inr h
  by_cases h1 : (i : Int) ∈ (x : Int) :: Pp.reverse.map Int.ofNat
  · rw [if_pos h1]
    have h2 : i ∉ Q := by
      rcases this.1 h1 with rfl | h3
      · exact hx.1
      · intro h4; exact hd.2.2 i h3 i (by simp [h4]) rfl
    simp [h2]
  · rw [if_neg h1]
    have h2 : ¬ (i = x ∨ i ∈ Pp) := fun h => h1 (this.2 h)
    have h3 : (i ∈ Pp ++ x :: Q) ↔ i ∈ Q := by
      simp only [List.mem_append, List.mem_cons]
      constructor
      · rintro (h | h | h)
        · exact absurd (.inr h) h2
        · exact absurd (.inl h) h2
        · exact h
      · intro h; exact .inr (.inr h)
    simp only [h3]
end
end Go.Proofs.YtclannenknhfpaaGreatDoor

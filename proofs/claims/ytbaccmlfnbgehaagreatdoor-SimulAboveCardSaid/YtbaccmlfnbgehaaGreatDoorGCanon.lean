/-
  Lemmas.
-/
import Derived.Test.YtbaccmlfnbgehaaGreatDoorGKit
import Derived.Test.YtbaccmlfnbgehaaGreatDoorGPl4
import Derived.Maps.OwnSet
import Derived.Deep.DeepMust
import Derived.Test.YtbaccmlfnbgehaaGreatDoorGRows2
import Derived.BigRegion
import Derived.Deep.LoopGhost
import Derived.Test.YtbaccmlfnbgehaaGreatDoorGBkRow
import Derived.Test.YtbaccmlfnbgehaaGreatDoorGPlB
import Derived.Test.YtbaccmlfnbgehaaGreatDoorGNew
import Derived.Test.YtbaccmlfnbgehaaGreatDoorGRwsB
import Derived.Test.YtbaccmlfnbgehaaGreatDoorGBkEp
import Derived.Test.YtbaccmlfnbgehaaGreatDoorGKw
namespace Go.Proofs.YtbaccmlfnbgehaaGreatDoor
open Go.RowKit Pl Go.Maps
open Lib (hid)
theorem lawInt : Keyed Tryz.prog 3 := int_keyed Tryz.underlying3
theorem zeroInt (w : World) : (zeroValue 3).run Tryz.prog w = .ok (.int .i64 0) w := by kernel_rfl
structure MapD (D : DataW Unit) (s : List Int) : Prop where
  has : ∀ x : Int, Maps.has D (.int .i64 x) = decide (x ∈ s)
  key : ∀ x ∈ s, D.atKey (.int .i64 x) (.lit (.int .i64 0)) = .lit (.int .i64 (s.idxOf x : Int))
  len : Maps.size D = s.length
theorem MapD.nil : MapD (.map []) [] := ⟨fun x => by simp [Maps.has], fun x h => by simp at h, rfl⟩
theorem MapD.push {D : DataW Unit} {s : List Int} {x : Int} (h : MapD D s) (ht : Tidy D) (hx : x ∉ s) : MapD (D.put (.int .i64 x) (.lit (.int .i64 (s.length : Int)))) (s ++ [x]) where
  has y := by
    by_cases e : y = x
    · subst e; rw [has_put_same (k := .int .i64 y) ht.isMap trivial]; simp
    · rw [has_put_other (by intro h; cases h; exact e rfl), h.has]; simp [e]
  key y hy := by
    by_cases e : y = x
    · subst e; rw [atKey_put_same (k := .int .i64 y) ht.isMap trivial, List.idxOf_append]; simp [hx]
    · have hys : y ∈ s := by simpa [e] using hy
      rw [atKey_put_other (by intro h; cases h; exact e rfl), h.key y hys, List.idxOf_append]; simp [hys]
  len := by rw [size_put ht, h.has]; simp [hx, h.len]
theorem own_rowIs {w : World} {b n : Nat} {f : Nat → Value} {xs : List Int} (h : w.rowIs b 3 n f) (hl : xs.length = n) (hf : ∀ i x, xs[i]? = some x → f i = .int .i64 x) (hn : n ≤ maxLen) {base : Nat} (hb : base ≤ b) :
    w.ownsRow base 3 1 (.slice (some ⟨b, 0, none⟩) n n) n (xs.flatMap encI) := by
  obtain ⟨c, hh, hs, hc⟩ := h
  have hlen := length_flatMap lenI xs
  refine ⟨by omega, .inr ⟨b, n, c, rfl, hb, hh, Nat.le_refl _, hn, by omega, ?_⟩⟩
  rw [Nat.mul_one, List.take_of_length_le (by simp; omega)]
  apply List.ext_getElem?
  intro i
  by_cases hi : i < n
  · obtain ⟨x, hx⟩ := getElem?_of_lt (show i < xs.length by omega)
    have := getElem?_flatMap lenI xs i x hx 0 _ rfl
    rw [Array.getElem?_toList, hc i hi, hf i x hx]
    simpa using this.symm
  · rw [List.getElem?_eq_none (by simp; omega), List.getElem?_eq_none (by omega)]
def rowAtK (xs : List Int) (k : Nat) (j : Nat) : Value := .int .i64 (if j < k then ((dist xs).idxOf (xs.getD j 0) : Int) else 0)
theorem rowAtK_step {xs : List Int} {k : Nat} {x : Int} (hx : xs[k]? = some x) (i : Nat) : (if i = k then Value.int .i64 ((dist (xs.take (k + 1))).idxOf x : Int) else rowAtK xs k i) = rowAtK xs (k + 1) i := by
  unfold rowAtK
  by_cases e : i = k
  · subst e
    have hm : x ∈ xs.take (i + 1) := by rw [take_snoc hx]; simp
    rw [if_pos rfl, if_pos (by omega), List.getD_eq_getElem?_getD, hx, ← idx_append (xs.take (i + 1)) (xs.drop (i + 1)) hm, List.take_append_drop]; rfl
  · rw [if_neg e]
    by_cases h : i < k
    · rw [if_pos h, if_pos (by omega)]
    · rw [if_neg h, if_neg (by omega)]
set_option maxRecDepth 100000 in
set_option maxHeartbeats 2000000 in
theorem canon_any {w : World} {a : Option Addr} {b off c : Nat} {xs : List Int} (hS : SlAt encI 1 w a b off xs) (hn : xs.length ≤ 1000000) (hwf : ∀ x ∈ xs, (Lit.int .i64 x).wf = true) :
    Calls Tryz.prog 38 #[.slice a xs.length c] w fun e w' => ∃ v, e = .returned v ∧ w'.ownsRow w.heap.size 3 1 v xs.length ((canon xs).flatMap encI) ∧ Below w.heap.size w w' := by
  obtain ⟨n, hnn⟩ : ∃ n, n = xs.length := ⟨_, rfl⟩
  rw [← hnn] at hn ⊢
  have hmk := run_make_row' (P := Tryz.prog) 50 3 (.int .i64 0) 8 Tryz.underlying50 (by kernel_rfl) rfl .i64 .i64 n (by omega) (by omega)
  have hmm := @run_makeMap Tryz.prog
  have HS := hid hS; have HWF := hid hwf; have HNN := hid hnn
  clear hS hwf hnn
  go_enter Tryz.func38, Tryz.ntmps38
  go_wp2_with fail
  go_loopw [5, 6, 7, 8, 15] (fun _ _ _ _ i wr => ∃ (k : Nat) (D : DataW Unit), k ≤ n ∧ i = .int .i64 k ∧ MapD D (dist (xs.take k)) ∧ wr.ownsMap Tryz.prog 3 (plainElem Tryz.prog 3) w.heap.size k D ∧
      wr.rowIs (w.heap.size + 1) 3 n (rowAtK xs k) ∧ Below w.heap.size w wr)
    (fun _ _ _ _ i _ => n - (intOf i).toNat)
  case atStart =>
    refine ⟨0, .map [], Nat.zero_le _, rfl, by simpa [dist] using MapD.nil, (World.ownsMap_made _ _ _ _).alloc _, ?_, ((Below.refl _ _).alloc (Nat.le_refl _) _).alloc (by simp) _⟩
    have := World.rowIs_made (w.alloc (.map #[] 0)) (.int .i64 0) n 3
    exact (by simpa using this : World.rowIs _ (w.heap.size + 1) _ _ _).congr (fun i _ => by simp [rowAtK])
  case round =>
    obtain ⟨k, D, hk, rfl, hmd, hown, hrow, hB⟩ := hrel
    have hm := hown.size_le
    have hsz := hB.size
    have hrlt := hrow.lt
    have hmlt := hown.lt
    have HMD := hid hmd; have HOWN := hid hown; have HROW := hid hrow; have HB := hid hB
    clear hmd hown hrow hB
    by_cases hlt : k < n
    · obtain ⟨x, hx⟩ := getElem?_of_lt (xs := xs) (i := k) (by have := HNN.out; omega)
      obtain rfl := HS.out.ad (by have := HNN.out; omega)
      have hcx := (HS.out.below HB.out (Nat.le_refl _)).ci hx
      have hkey := keyOf_int_mk Tryz.underlying3 (HWF.out x (List.mem_of_getElem? hx))
      have hfr : wr.frozen? ⟨w.heap.size + 1, k, none⟩ = false := HROW.out.frozen k
      have hct := HROW.out.cell hlt
      have hkn : (k : Int) < (n : Int) := by omega
      have HX := hid hx
      clear hx
      by_cases hin : x ∈ dist (xs.take k)
      · have hh : Maps.has D (.int .i64 x) = true := by rw [HMD.out.has]; simp [hin]
        have HH := hid hh
        clear hh
        go_wp2_with (at_lookup; refine wpList_lookup_own_ok_int _ rfl _ _ 139 rfl 3 3 .i64 lawInt Tryz.underlying139 Tryz.underlying3 (zeroInt _) w.heap.size k D rfl HOWN.out _ _ rfl hkey ?_; intro cc hat hwc; rw [HH.out])
        have hcc : cc = (((dist (xs.take k)).idxOf x : Nat) : Int) := by
          have := HMD.out.key x hin
          rw [this] at hat
          simp only [DataW.lit.injEq, Lit.int.injEq] at hat
          exact hat.2.symm
        subst hcc
        have hd : dist (xs.take (k + 1)) = dist (xs.take k) := by rw [take_snoc HX.out, dist_snoc]; unfold addN; rw [if_pos hin]
        have hrw := (HROW.out.set k (.int .i64 ((dist (xs.take (k + 1))).idxOf x : Int))).congr (fun i _ => rowAtK_step HX.out i)
        rw [hd] at hrw
        have HD := hid hd; have HRW := hid hrw
        clear hd hrw
        go_roundw
        case rel => exact ⟨k + 1, D, by omega, by go_num, by rw [HD.out]; exact HMD.out, (HOWN.out.setCell (by simp) _).mono (Nat.le_succ _), HRW.out, HB.out.setCell (by simp) _⟩
        case measure => simp [intOf]; omega
      · have hh : Maps.has D (.int .i64 x) = false := by rw [HMD.out.has]; simp [hin]
        have HH := hid hh; have HIN := hid hin
        clear hh hin
        have hml := HMD.out.len
        have hdl : (dist (xs.take k)).length ≤ k := by omega
        have HML := hid hml
        clear hml
        go_wp2_with (first
          | (at_lookup; refine wpList_lookup_own_ok_int _ rfl _ _ 139 rfl 3 3 .i64 lawInt Tryz.underlying139 Tryz.underlying3 (zeroInt _) w.heap.size k D rfl HOWN.out _ _ rfl hkey ?_; intro cc hat hwc; rw [HH.out])
          | (at_len; refine wpList_len_own _ rfl _ 139 rfl 3 3 Tryz.underlying139 _ w.heap.size k D rfl HOWN.out ?_; rw [HML.out])
          | (at_mapUpdate; refine wpList_mapUpdate_own _ rfl _ _ _ 139 rfl 3 3 lawInt Tryz.underlying139 _ w.heap.size k D rfl HOWN.out (by unfold maxLen; omega) _ _ _ rfl rfl hkey _ [] (plainElem_int Tryz.underlying3 (WalkArith.wf_i64 (by omega))) ?_; intro w1 hown1 hgrow1; have hct1 := (HROW.out.of_block (hgrow1.block _ hrlt (by simp))).cell hlt; have hfr1 : w1.frozen? ⟨w.heap.size + 1, k, none⟩ = false := (HROW.out.of_block (hgrow1.block _ hrlt (by simp))).frozen k; have hrlt1 := (HROW.out.of_block (hgrow1.block _ hrlt (by simp))).lt))
        have hd : dist (xs.take (k + 1)) = dist (xs.take k) ++ [x] := by rw [take_snoc HX.out, dist_snoc]; unfold addN; rw [if_neg HIN.out]
        have hix : (dist (xs.take (k + 1))).idxOf x = (dist (xs.take k)).length := by rw [hd, List.idxOf_append]; simp [HIN.out]
        have hrow1 : w1.rowIs (w.heap.size + 1) 3 n (rowAtK xs k) := HROW.out.of_block (hgrow1.block _ hrlt (by simp))
        have hB1 := HB.out.grown hgrow1 hsz (fun j hj => by cases hj; exact Nat.le_refl _)
        have hmd1 := HMD.out.push (HOWN.out.tidy lawInt) HIN.out
        rw [← hd] at hmd1
        have hrw := (hrow1.set k (.int .i64 ((dist (xs.take (k + 1))).idxOf x : Int))).congr (fun i _ => rowAtK_step HX.out i)
        rw [hix] at hrw
        have HRW := hid hrw; have HB1 := hid hB1; have HMD1 := hid hmd1; have HOWN1 := hid hown1
        clear hd hix hrow1 hB1 hmd1 hrw hown1 hgrow1 hct hfr
        go_roundw
        case rel => exact ⟨k + 1, _, by omega, by go_num, HMD1.out, HOWN1.out.setCell (by simp) _, HRW.out, HB1.out.setCell (by simp) _⟩
        case measure => simp [intOf]; omega
    · obtain rfl : k = n := by omega
      go_wp2
      go_ret
      refine ⟨_, rfl, own_rowIs HROW.out (by rw [canon_len]; exact HNN.out.symm) ?_ (by unfold maxLen; omega) (by omega), HB.out⟩
      intro i x hx
      rw [canon_get] at hx
      obtain ⟨y, hy, rfl⟩ := Option.map_eq_some_iff.1 hx
      have hi := (List.getElem?_eq_some_iff.1 hy).1
      unfold rowAtK
      rw [if_pos (by have := HNN.out; omega), List.getD_eq_getElem?_getD, hy]; rfl
end Go.Proofs.YtbaccmlfnbgehaaGreatDoor
namespace Go.Proofs.YtbaccmlfnbgehaaGreatDoor
open Go.RowKit Pl
section
variable {w0 w : World} {B WB LB NB IB CB n : Nat} {gp : Value} {low num cls : Nat → Int} {iso : Nat → Bool} {met found : Int} {ol : List Int} {sl : List E} {vo vs : Value}
end
end Go.Proofs.YtbaccmlfnbgehaaGreatDoor
namespace Go.Proofs.YtbaccmlfnbgehaaGreatDoor
open Go.RowKit Pl
section
variable {w0 w : World} {B WB LB NB IB CB n : Nat} {gp : Value} {low num cls : Nat → Int} {iso : Nat → Bool} {met found : Int} {sl : List E} {vo vs : Value}
end
end Go.Proofs.YtbaccmlfnbgehaaGreatDoor
namespace Go.Proofs.YtbaccmlfnbgehaaGreatDoor
open Go.RowKit Pl
namespace Pl
end Pl
def TWS (w0 wr : World) (B WB LB NB IB CB n : Nat) (gp : Value) (t : TS) (sl : List E) (vo vs : Value) : Prop :=
  TW w0 wr B WB LB NB IB CB n gp t.low t.num t.cls (fun (j : Nat) => decide (j ∈ t.opn)) t.met t.found (t.opn.reverse.map Int.ofNat) sl vo vs
section
variable {w0 w wr : World} {B WB LB NB IB CB n : Nat} {gp : Value} {low num cls : Nat → Int} {iso : Nat → Bool} {met found : Int} {ol : List Int} {sl : List E} {vo vs : Value}
theorem TW.top {sl0 : List E} {x : E} {g m c : Nat} (h : TW w0 wr B WB LB NB IB CB n gp low num cls iso met found ol (sl0 ++ [x]) vo (.slice (some ⟨g, 0, none⟩) m c)) :
    wr.cell? ⟨g, sl0.length * 3, none⟩ = some (.int .i64 x.1) ∧ wr.cell? ⟨g, sl0.length * 3 + 1, none⟩ = some (.int .i64 x.2.1) ∧ wr.cell? ⟨g, sl0.length * 3 + 2, none⟩ = some (.int .i64 x.2.2) ∧ (∀ j, wr.frozen? ⟨g, j, none⟩ = false) ∧ g < wr.heap.size ∧ B ≤ g ∧ m = sl0.length + 1 ∧ m ≤ c := by
  have hs := slAt_row (n := m) (cap := c) lenE h.stk
  have hx : (sl0 ++ [x])[sl0.length]? = some x := by simp
  have h0 := hs.e0 hx; have h1 := hs.e1 hx; have h2 := hs.e2 hx
  simp only [Nat.zero_add] at h0 h1 h2
  obtain ⟨a', c', b', hv, q1, q2, _⟩ := slAt_own lenE h.stk
  simp only [Value.slice.injEq] at hv
  obtain ⟨_, hm, hc⟩ := hv
  subst hc
  refine ⟨h0, h1, h2, fun j => row_frozen h.stk j, hs.lt (by simp), h.sgt g rfl, by simpa using hm, by omega⟩
end
def DeepPost (s : Lts) (w0 : World) (B WB LB NB IB CB n : Nat) (gp : Value) (t0 : TS) (x : Nat) (K : List Nat) (nx0 : Nat → Nat) (sl0 : List E) (vo vs : Value) (e : Ending) (w' : World) : Prop :=
  ∃ (t : TS) (nx : Nat → Nat), TI s n t (x :: K) nx ∧ (∀ z, z ≠ x → nx z = nx0 z) ∧ ((∀ z, t0.num z ≠ 0 → t.num z ≠ 0) ∧ t0.met ≤ t.met) ∧
    ((e = .returned (.bool true) ∧ ∃ (y : Nat) (g m c : Nat), (taus s x)[nx x]? = some y ∧ t.num y = 0 ∧ TWS w0 w' B WB LB NB IB CB n gp t (sl0 ++ [((x : Int), 1, ((nx x + 1 : Nat) : Int))] ++ [((y : Int), 0, 0)]) vo (.slice (some ⟨g, 0, none⟩) m c)) ∨
     (e = .returned (.bool false) ∧ nx x = (taus s x).length ∧ TWS w0 w' B WB LB NB IB CB n gp t (sl0 ++ [((x : Int), 1, ((nx x : Nat) : Int))]) vo vs))
end Go.Proofs.YtbaccmlfnbgehaaGreatDoor
namespace Go.Proofs.YtbaccmlfnbgehaaGreatDoor
open Go.RowKit Pl
def stkOf (K : List Nat) (nx : Nat → Nat) : List E := K.reverse.map (fun (z : Nat) => ((z : Int), (1 : Int), ((nx z : Nat) : Int)))
theorem stkOf_cons (x : Nat) (K : List Nat) (nx : Nat → Nat) : stkOf (x :: K) nx = stkOf K nx ++ [((x : Int), 1, ((nx x : Nat) : Int))] := by simp [stkOf]
theorem stkOf_congr {K : List Nat} {nx nx' : Nat → Nat} (h : ∀ z ∈ K, nx z = nx' z) : stkOf K nx = stkOf K nx' := by
  unfold stkOf
  apply List.map_congr_left
  intro z hz
  rw [h z (by simpa using hz)]
inductive FromSt (s : Lts) (n : Nat) (t : TS) : List E → Nat → Prop
  | done (nx : Nat → Nat) (k : Nat) : TI s n t [] nx → FromSt s n t [] k
  | seen (x : Nat) (K : List Nat) (nx : Nat → Nat) (k : Nat) : TI s n t (x :: K) nx → (∀ z ∈ x :: K, nx z ≤ (taus s z).length) → 3 * (n - t.met.toNat) + (K.length + 1) + 2 ≤ k → FromSt s n t (stkOf K nx ++ [((x : Int), 1, ((nx x : Nat) : Int))]) k
  | come (y : Nat) (K : List Nat) (nx nx' : Nat → Nat) (k : Nat) : TI s n t K nx → y < n → t.num y = 0 → (∀ g ∈ K, TR s g y) → (∀ x y', x ∈ K → y' ∈ (taus s x).take (nx' x) → y' = y ∨ y' ∈ (taus s x).take (nx x)) → (∀ z ∈ K, nx' z ≤ (taus s z).length) →
      3 * (n - t.met.toNat) + (K.length + 1) ≤ k → FromSt s n t (stkOf K nx' ++ [((y : Int), 0, 0)]) k
section
variable {s : Lts} {n : Nat} {t : TS} {K : List Nat} {nx nx' : Nat → Nat}
theorem Pl.TI.notin {x : Nat} (h : TI s n t (x :: K) nx) : x ∉ K := fun hh => by
  have := (List.pairwise_cons.1 h.gsrt).1 x hh; omega
theorem FromSt.push {x y k : Nat} (h : TI s n t (x :: K) nx) (hr : s.Right) (hs : Srt ltE s.es) (hn : s.st = (n : Int)) (hy : (taus s x)[nx x]? = some y) (h0 : t.num y = 0) (hnx : ∀ z ∈ K, nx z ≤ (taus s z).length) (hk : 3 * (n - t.met.toNat) + (K.length + 2) ≤ k) :
    FromSt s n t (stkOf K nx ++ [((x : Int), 1, ((nx x + 1 : Nat) : Int))] ++ [((y : Int), 0, 0)]) k := by
  have hxK := h.notin
  have htx : tau s x y := (mem_taus hr hs).1 (List.mem_of_getElem? hy)
  have hlt := (List.getElem?_eq_some_iff.1 hy).1
  have e : stkOf K nx ++ [((x : Int), 1, ((nx x + 1 : Nat) : Int))] = stkOf (x :: K) (upd nx x (nx x + 1)) := by
    rw [stkOf_cons, upd_same, stkOf_congr (nx := upd nx x (nx x + 1)) (nx' := nx) (fun z hz => upd_other _ _ (fun e => hxK (e ▸ hz)))]
  rw [e]
  refine .come y (x :: K) nx _ k h (tau_lt hr hn htx).2 h0 (fun g hg => ?_) (fun x' y' hx' hy' => ?_) (fun z hz => ?_) (by simp; omega)
  · exact (h.tree g hg x (h.gin x List.mem_cons_self) (h.top g hg)).tail htx
  · by_cases e : x' = x
    · subst e
      rw [upd_same] at hy'
      obtain ⟨hl, hg⟩ := List.getElem?_eq_some_iff.1 hy
      rw [List.take_succ_eq_append_getElem hl, hg] at hy'
      rcases List.mem_append.1 hy' with h1 | h1
      · exact .inr h1
      · exact .inl (by simpa using h1)
    · rw [upd_other _ _ e] at hy'; exact .inr hy'
  · by_cases e : z = x
    · subst e; rw [upd_same]; omega
    · rw [upd_other _ _ e]
      rcases List.mem_cons.1 hz with h1 | h1
      · exact absurd h1 e
      · exact hnx z h1
end
end Go.Proofs.YtbaccmlfnbgehaaGreatDoor
namespace Go.Proofs.YtbaccmlfnbgehaaGreatDoor
open Go.RowKit Pl
section
variable {w0 wr : World} {B WB LB NB IB CB n : Nat} {gp : Value} {low num cls : Nat → Int} {iso : Nat → Bool} {met found : Int} {ol : List Int} {sl0 : List E} {vo vs : Value}
end
end Go.Proofs.YtbaccmlfnbgehaaGreatDoor
namespace Go.Proofs.YtbaccmlfnbgehaaGreatDoor
open Go.RowKit Pl
def t0S : TS := ⟨fun _ => 0, fun _ => 0, fun _ => 0, [], 0, 0⟩
theorem row_of_heap {w2 : World} {z : Value} {n b : Nat} {T : TypeId} (h : w2.heap[b]? = some (.cells (madeCells #[z] n) T (0, 0))) : w2.rowIs b T n (fun _ => z) :=
  ⟨_, h, size_madeCells _ _, fun i hi => by simp [madeCells, hi, Nat.mod_one]⟩
theorem TW.start {w0 W : World} {WB LB NB IB CB n : Nat} {gp : Value}
    (hw : W.heap[WB]? = some (.cells #[gp, .slice (some ⟨LB, 0, none⟩) n n, .slice (some ⟨NB, 0, none⟩) n n, .slice none 0 0, .slice (some ⟨IB, 0, none⟩) n n, .slice (some ⟨CB, 0, none⟩) n n, .int .i64 0, .int .i64 0, .slice none 0 0] 264 (0, 0)))
    (hl : W.heap[LB]? = some (.cells (madeCells #[.int .i64 0] n) 3 (0, 0))) (hn : W.heap[NB]? = some (.cells (madeCells #[.int .i64 0] n) 3 (0, 0)))
    (hi : W.heap[IB]? = some (.cells (madeCells #[.bool false] n) 4 (0, 0))) (hc : W.heap[CB]? = some (.cells (madeCells #[.int .i64 0] n) 3 (0, 0)))
    (hB : Below w0.heap.size w0 W) (hlo : w0.heap.size ≤ WB ∧ w0.heap.size ≤ LB ∧ w0.heap.size ≤ NB ∧ w0.heap.size ≤ IB ∧ w0.heap.size ≤ CB)
    (hne : WB ≠ LB ∧ WB ≠ NB ∧ WB ≠ IB ∧ WB ≠ CB ∧ LB ≠ NB ∧ LB ≠ IB ∧ LB ≠ CB ∧ NB ≠ IB ∧ NB ≠ CB ∧ IB ≠ CB) :
    TWS w0 W W.heap.size WB LB NB IB CB n gp t0S [] (.slice none 0 0) (.slice none 0 0) := by
  have h1 := (Array.getElem?_eq_some_iff.1 hw).1
  have h2 := (Array.getElem?_eq_some_iff.1 hl).1
  have h3 := (Array.getElem?_eq_some_iff.1 hn).1
  have h4 := (Array.getElem?_eq_some_iff.1 hi).1
  have h5 := (Array.getElem?_eq_some_iff.1 hc).1
  obtain ⟨q1, q2, q3, q4, q5, q6, q7, q8, q9, q10⟩ := hne
  exact ⟨⟨⟨hlo.1, hlo.2.1, hlo.2.2.1, hlo.2.2.2.1, hlo.2.2.2.2, hB.size⟩, ⟨h1, h2, h3, h4, h5⟩, ⟨q1, q2, q3, q4⟩, ⟨q5, q6, q7⟩, ⟨q8, q9, q10⟩⟩, hB, Nat.le_refl _, hw, row_of_heap hl, row_of_heap hn, (row_of_heap hi).congr (fun i _ => by simp [t0S]), row_of_heap hc,
    World.ownsRow_nil _ _ _ _, World.ownsRow_nil _ _ _ _, fun g hg => by simp [Value.ownBlock] at hg⟩
def CycPost (s : Lts) (n : Nat) (w : World) (e : Ending) (w' : World) : Prop :=
  ∃ (f : Nat → Int) (v : Value), Cyc s n f ∧ e = .returned v ∧ w'.ownsRow w.heap.size 3 1 v n ((fl n (clf n f)).flatMap encI) ∧ Below w.heap.size w w'
end Go.Proofs.YtbaccmlfnbgehaaGreatDoor
namespace Go.Proofs.YtbaccmlfnbgehaaGreatDoor
open Go.RowKit Pl
namespace Pl
end Pl
def tauName : ByteArray := ⟨#[116, 97, 117, 115, 99, 99]⟩
def Fault2 (w : World) (p : Addr) (v : Value) : Prop :=
  ∃ vi, FaultAt w v tauName vi ∧ FaultAt w vi sysName (.iface 278 (.pointer (some p)))
theorem Fault2.below {w w' : World} {p : Addr} {v : Value} (h : Fault2 w p v) (hB : Below w.heap.size w w') : Fault2 w' p v := by
  obtain ⟨vi, h1, h2⟩ := h
  exact ⟨vi, h1.below hB, h2.below hB⟩
end Go.Proofs.YtbaccmlfnbgehaaGreatDoor
namespace Go.Proofs.YtbaccmlfnbgehaaGreatDoor
open Go.RowKit Pl
def clB (st : Int) (l : List Int) : Bool := decide ((l.length : Int) = st) && decide (l = canon l)
end Go.Proofs.YtbaccmlfnbgehaaGreatDoor
namespace Go.Proofs.YtbaccmlfnbgehaaGreatDoor
open Go.RowKit Pl Go.Maps
structure SetD (D : DataW Unit) (s : List Int) : Prop where
  has : ∀ x : Int, Maps.has D (.int .i64 x) = decide (x ∈ s)
  len : Maps.size D = s.length
theorem SetD.nil : SetD (.map []) [] := ⟨fun x => by simp [Maps.has], rfl⟩
theorem SetD.add {D : DataW Unit} {s : List Int} {x : Int} (h : SetD D s) (ht : Tidy D) : SetD (D.put (.int .i64 x) (.agg [])) (addN s x) where
  has y := by
    have hm : (y ∈ addN s x) ↔ y ∈ s ∨ y = x := mem_addN
    by_cases e : y = x
    · subst e; rw [has_put_same (k := .int .i64 y) ht.isMap trivial]; simp [hm]
    · rw [has_put_other (by intro h; cases h; exact e rfl), h.has]; simp [hm, e]
  len := by
    rw [size_put ht, h.has]
    unfold addN
    by_cases hx : x ∈ s
    · simp [hx, h.len]
    · simp [hx, h.len]
end Go.Proofs.YtbaccmlfnbgehaaGreatDoor
namespace Go.Proofs.YtbaccmlfnbgehaaGreatDoor
open Go.RowKit Pl
theorem sysC {w : World} {B : Nat} {x y z : Int} {v : Value} (h : w.heap[B]? = some (.cells #[.int .i64 x, .int .i64 y, .int .i64 z, v] 24 (0, 0))) :
    w.cell? ⟨B, 0, none⟩ = some (.int .i64 x) ∧ w.cell? ⟨B, 1, none⟩ = some (.int .i64 y) ∧ w.cell? ⟨B, 2, none⟩ = some (.int .i64 z) ∧ w.cell? ⟨B, 3, none⟩ = some v ∧ B < w.heap.size := by
  refine ⟨?_, ?_, ?_, ?_, (Array.getElem?_eq_some_iff.1 h).1⟩ <;> simp [World.cell?, h]
def ColPost (s : Lts) (n : Nat) (w : World) (e : Ending) (w' : World) : Prop :=
  ∃ (f : Nat → Int) (v ve : Value), Cyc s n f ∧ e = .returned (.tuple #[.agg #[.int .i64 (col s (fl n (clf n f))).st, .int .i64 (col s (fl n (clf n f))).lb, .int .i64 (col s (fl n (clf n f))).s0, ve], v, .nilIface]) ∧
    w'.ownsRow w.heap.size 3 1 v n ((fl n (clf n f)).flatMap encI) ∧ w'.ownsRow w.heap.size 71 3 ve (col s (fl n (clf n f))).es.length ((col s (fl n (clf n f))).es.flatMap encE) ∧ Below w.heap.size w w'
theorem sysZ {w : World} {B : Nat} {x y z : Int} {v : Value} (h : w.heap[B]? = some (.cells #[.int .i64 x, .int .i64 y, .int .i64 z, v] 24 (0, 0))) :
    (w.cell? ⟨B, 0, none⟩ = some (.int .i64 x) ∧ w.cell? ⟨B, 1, none⟩ = some (.int .i64 y) ∧ w.cell? ⟨B, 2, none⟩ = some (.int .i64 z) ∧ w.cell? ⟨B, 3, none⟩ = some v ∧ B < w.heap.size) ∧ w.frozen? ⟨B, 0, none⟩ = false ∧ w.frozen? ⟨B, 1, none⟩ = false ∧ w.frozen? ⟨B, 2, none⟩ = false ∧ w.frozen? ⟨B, 3, none⟩ = false := by
  refine ⟨sysC h, ?_, ?_, ?_, ?_⟩ <;> simp [World.frozen?, h]
end Go.Proofs.YtbaccmlfnbgehaaGreatDoor

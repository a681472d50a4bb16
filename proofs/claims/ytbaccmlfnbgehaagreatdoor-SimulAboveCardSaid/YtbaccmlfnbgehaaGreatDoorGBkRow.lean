/-
  Lemmas.
-/
import Derived.Test.YtbaccmlfnbgehaaGreatDoorGBkEa
import Derived.Test.YtbaccmlfnbgehaaGreatDoorBkQF
import Derived.Test.YtbaccmlfnbgehaaGreatDoorGClone
import Derived.Test.YtbaccmlfnbgehaaGreatDoorGKit
namespace Go.Proofs.YtbaccmlfnbgehaaGreatDoor
open Go.RowKit Pl
open Lib (hid)
def wRowsI (n : Nat) (vs : Nat → Value) (f : Nat → List Int) : List Rw := (List.range n).map (fun p => ⟨3, 1, vs p, (f p).length, (f p).flatMap encI⟩)
def wOuterI (tb n : Nat) (vs : Nat → Value) : Rw := ⟨50, 1, .slice (some ⟨tb, 0, none⟩) n n, n, (List.range n).map vs⟩
theorem wRowsI_drop {n : Nat} {vs : Nat → Value} {f : Nat → List Int} {i : Nat} (hi : i < n) : (wRowsI n vs f).drop i = ⟨3, 1, vs i, (f i).length, (f i).flatMap encI⟩ :: (wRowsI n vs f).drop (i + 1) := by
  unfold wRowsI
  rw [List.drop_eq_getElem_cons (by simpa using hi)]
  simp
set_option maxRecDepth 100000 in
set_option maxHeartbeats 4000000 in
theorem Bk.row {w0 w : World} {bb tb n : Nat} {Z R : List Rw} {vs : Nat → Value} {f : Nat → List Int} (h : Bk w0 w bb Z (wRowsI n vs f ++ wOuterI tb n vs :: R)) (hn : n ≤ 100000) (hf : ∀ p, p < n → (f p).length ≤ 500000) :
    Calls Tryz.prog 17 #[.pointer (some ⟨bb, 0, none⟩), .slice (some ⟨tb, 0, none⟩) n n] w fun e w' => e = .returned (.tuple #[]) ∧ ∃ Z', Bk w0 w' bb Z' R ∧ ∀ z ∈ Z, z ∈ Z' := by
  have HBK := hid h; have HF := hid hf
  clear h hf
  go_enter Tryz.func17, Tryz.ntmps17
  go_wp2_with fail
  go_loopw [4] (fun v4 wr => ∃ (i : Nat) (Zi : List Rw), v4 = .int .i64 i ∧ i ≤ n ∧ Bk w0 wr bb Zi ((wRowsI n vs f).drop i ++ wOuterI tb n vs :: R) ∧ (∀ z ∈ Z, z ∈ Zi) ∧ (∀ j, j < i → (⟨3, 1, vs j, (f j).length, (f j).flatMap encI⟩ : Rw) ∈ Zi)) (fun v4 _ => n - (intOf v4).toNat)
  case atStart => exact ⟨0, Z, rfl, Nat.zero_le _, by simpa using HBK.out, fun z hz => hz, fun j hj => by omega⟩
  case round =>
    obtain ⟨i, Zi, rfl, hi, hbk, hz, hj⟩ := hrel
    replace HBK := hid hbk; have HZ := hid hz; have HJ := hid hj
    clear hz hj
    by_cases hin : i < n
    · have hiI : (i : Int) < (n : Int) := by omega
      have ho := hbk.own (r := wOuterI tb n vs) (.inr (by simp))
      obtain ⟨a1, c1, hv1, hc1⟩ : ∃ g cur, (some (⟨tb, 0, none⟩ : Addr) = some ⟨g, 0, none⟩ ∧ wr.heap[g]? = some (.cells cur 50 (0, 0))) ∧ (cur.toList.take (n * 1)) = (List.range n).map vs := by
        rcases ho.2 with ⟨e, _⟩ | ⟨g, cap, cur, e, _, hh, _, _, _, ht⟩
        · simp [wOuterI] at e
        · simp only [wOuterI, Value.slice.injEq] at e
          exact ⟨g, cur, ⟨e.1, hh⟩, by simpa [wOuterI] using ht⟩
      have hg : a1 = tb := by have := hv1.1; simp at this; exact this.symm
      subst hg
      have c0 : wr.cell? ⟨a1, i, none⟩ = some (vs i) := by
        have h2 : c1[i]? = some (vs i) := by
          have h3 : (c1.toList.take (n * 1))[i]? = some (vs i) := by rw [hc1]; simp [hin]
          rw [List.getElem?_take, if_pos (by omega)] at h3
          simpa using h3
        simp [World.cell?, hv1.2, h2]
      have cl := (Array.getElem?_eq_some_iff.1 hv1.2).1
      rw [wRowsI_drop hin] at hbk
      replace HBK := hid hbk
      clear ho hv1 hc1 hbk
      go_wp2_with fail
      refine (Bk.giveI (R := (wRowsI n vs f).drop (i + 1) ++ wOuterI a1 n vs :: R) HBK.out rfl rfl (HF.out i hin)).mono ?_
      rintro e w2 ⟨rfl, hbk⟩
      replace HBK := hid hbk
      clear hbk c0 cl
      go_wp2_with fail
      go_roundw
      case rel => exact ⟨i + 1, _, by go_num, by omega, HBK.out, fun z hz => List.mem_cons_of_mem _ (HZ.out z hz), fun j hj => by
        rcases Nat.eq_or_lt_of_le (show j ≤ i by omega) with e | e
        · subst e; exact List.mem_cons_self ..
        · exact List.mem_cons_of_mem _ (HJ.out j e)⟩
      case measure => simp [intOf]; omega
    · obtain rfl : n = i := by omega
      have hdr : (wRowsI n vs f).drop n = [] := List.drop_eq_nil_of_le (by unfold wRowsI; simp)
      rw [hdr, List.nil_append] at hbk
      have hgv := Bk.giveN (R := R) hbk (by omega) (fun x hx => by
        obtain ⟨j, hj, rfl⟩ := List.mem_map.1 hx
        have hjn := List.mem_range.1 hj
        exact ⟨_, HJ.out j hjn, rfl, rfl, rfl, f j, HF.out j hjn, rfl, rfl⟩)
      have HGV := hid hgv
      clear hdr hgv hbk
      go_wp2_with fail
      refine HGV.out.mono ?_
      rintro e w2 ⟨rfl, hbk⟩
      have HB2 := hid hbk
      clear hbk
      go_wp2_with fail
      first
        | (go_end0; exact ⟨rfl, _, HB2.out, fun z hz => List.mem_cons_of_mem _ (HZ.out z hz)⟩)
        | (refine bodyPost_end0 ?_; exact ⟨rfl, _, HB2.out, fun z hz => List.mem_cons_of_mem _ (HZ.out z hz)⟩)
end Go.Proofs.YtbaccmlfnbgehaaGreatDoor
namespace Go.Proofs.YtbaccmlfnbgehaaGreatDoor
open Go.RowKit Pl
open Lib (hid)
def wOuterV (oa : Option Addr) (oc n : Nat) (vs : Nat → Value) : Rw := ⟨50, 1, .slice oa n oc, n, (List.range n).map vs⟩
set_option maxRecDepth 100000 in
set_option maxHeartbeats 4000000 in
theorem Bk.rowV {w0 w : World} {bb n : Nat} {oa : Option Addr} {oc : Nat} {Z R : List Rw} {vs : Nat → Value} {f : Nat → List Int} (h : Bk w0 w bb Z (wRowsI n vs f ++ wOuterV oa oc n vs :: R)) (hn : n ≤ 100000) (hf : ∀ p, p < n → (f p).length ≤ 500000) :
    Calls Tryz.prog 17 #[.pointer (some ⟨bb, 0, none⟩), .slice oa n oc] w fun e w' => e = .returned (.tuple #[]) ∧ ∃ Z', Bk w0 w' bb Z' R ∧ ∀ z ∈ Z, z ∈ Z' := by
  have HBK := hid h; have HF := hid hf
  clear h hf
  go_enter Tryz.func17, Tryz.ntmps17
  go_wp2_with fail
  go_loopw [4] (fun v4 wr => ∃ (i : Nat) (Zi : List Rw), v4 = .int .i64 i ∧ i ≤ n ∧ Bk w0 wr bb Zi ((wRowsI n vs f).drop i ++ wOuterV oa oc n vs :: R) ∧ (∀ z ∈ Z, z ∈ Zi) ∧ (∀ j, j < i → (⟨3, 1, vs j, (f j).length, (f j).flatMap encI⟩ : Rw) ∈ Zi)) (fun v4 _ => n - (intOf v4).toNat)
  case atStart => exact ⟨0, Z, rfl, Nat.zero_le _, by simpa using HBK.out, fun z hz => hz, fun j hj => by omega⟩
  case round =>
    obtain ⟨i, Zi, rfl, hi, hbk, hz, hj⟩ := hrel
    replace HBK := hid hbk; have HZ := hid hz; have HJ := hid hj
    clear hz hj
    by_cases hin : i < n
    · have hiI : (i : Int) < (n : Int) := by omega
      have ho := hbk.own (r := wOuterV oa oc n vs) (.inr (by simp))
      obtain ⟨a1, c1, hv1, hc1⟩ : ∃ g cur, (oa = some ⟨g, 0, none⟩ ∧ wr.heap[g]? = some (.cells cur 50 (0, 0))) ∧ (cur.toList.take (n * 1)) = (List.range n).map vs := by
        rcases ho.2 with ⟨e, _⟩ | ⟨g, cap, cur, e, _, hh, _, _, _, ht⟩
        · simp only [wOuterV, Value.slice.injEq] at e
          omega
        · simp only [wOuterV, Value.slice.injEq] at e
          exact ⟨g, cur, ⟨e.1, hh⟩, by simpa [wOuterV] using ht⟩
      obtain rfl := hv1.1
      have c0 : wr.cell? ⟨a1, i, none⟩ = some (vs i) := by
        have h2 : c1[i]? = some (vs i) := by
          have h3 : (c1.toList.take (n * 1))[i]? = some (vs i) := by rw [hc1]; simp [hin]
          rw [List.getElem?_take, if_pos (by omega)] at h3
          simpa using h3
        simp [World.cell?, hv1.2, h2]
      have cl := (Array.getElem?_eq_some_iff.1 hv1.2).1
      rw [wRowsI_drop hin] at hbk
      replace HBK := hid hbk
      clear ho hv1 hc1 hbk
      go_wp2_with fail
      refine (Bk.giveI (R := (wRowsI n vs f).drop (i + 1) ++ wOuterV (some ⟨a1, 0, none⟩) oc n vs :: R) HBK.out rfl rfl (HF.out i hin)).mono ?_
      rintro e w2 ⟨rfl, hbk⟩
      replace HBK := hid hbk
      clear hbk c0 cl
      go_wp2_with fail
      go_roundw
      case rel => exact ⟨i + 1, _, by go_num, by omega, HBK.out, fun z hz => List.mem_cons_of_mem _ (HZ.out z hz), fun j hj => by
        rcases Nat.eq_or_lt_of_le (show j ≤ i by omega) with e | e
        · subst e; exact List.mem_cons_self ..
        · exact List.mem_cons_of_mem _ (HJ.out j e)⟩
      case measure => simp [intOf]; omega
    · obtain rfl : n = i := by omega
      have hdr : (wRowsI n vs f).drop n = [] := List.drop_eq_nil_of_le (by unfold wRowsI; simp)
      rw [hdr, List.nil_append] at hbk
      have hgv := Bk.giveN (R := R) hbk (by omega) (fun x hx => by
        obtain ⟨j, hj, rfl⟩ := List.mem_map.1 hx
        have hjn := List.mem_range.1 hj
        exact ⟨_, HJ.out j hjn, rfl, rfl, rfl, f j, HF.out j hjn, rfl, rfl⟩)
      have HGV := hid hgv
      clear hdr hgv hbk
      go_wp2_with fail
      refine HGV.out.mono ?_
      rintro e w2 ⟨rfl, hbk⟩
      have HB2 := hid hbk
      clear hbk
      go_wp2_with fail
      first
        | (go_end0; exact ⟨rfl, _, HB2.out, fun z hz => List.mem_cons_of_mem _ (HZ.out z hz)⟩)
        | (refine bodyPost_end0 ?_; exact ⟨rfl, _, HB2.out, fun z hz => List.mem_cons_of_mem _ (HZ.out z hz)⟩)
end Go.Proofs.YtbaccmlfnbgehaaGreatDoor
namespace Go.Proofs.YtbaccmlfnbgehaaGreatDoor
open Go.RowKit Pl
open Lib (hid)
set_option maxRecDepth 100000 in
set_option maxHeartbeats 4000000 in
theorem BkF.rowV {w0 w : World} {bb n : Nat} {oa : Option Addr} {oc : Nat} {Z R : List Rw} {vs : Nat → Value} {f : Nat → List Int} (h : BkF w0 w bb Z (wRowsI n vs f ++ wOuterV oa oc n vs :: R)) (hn : n ≤ 100000) (hf : ∀ p, p < n → (f p).length ≤ 500000) :
    Calls Tryz.prog 17 #[.pointer (some ⟨bb, 0, none⟩), .slice oa n oc] w fun e w' => e = .returned (.tuple #[]) ∧ ∃ Z', BkF w0 w' bb Z' R ∧ ∀ z ∈ Z, z ∈ Z' := by
  have HBK := hid h; have HF := hid hf
  clear h hf
  go_enter Tryz.func17, Tryz.ntmps17
  go_wp2_with fail
  go_loopw [4] (fun v4 wr => ∃ (i : Nat) (Zi : List Rw), v4 = .int .i64 i ∧ i ≤ n ∧ BkF w0 wr bb Zi ((wRowsI n vs f).drop i ++ wOuterV oa oc n vs :: R) ∧ (∀ z ∈ Z, z ∈ Zi) ∧ (∀ j, j < i → (⟨3, 1, vs j, (f j).length, (f j).flatMap encI⟩ : Rw) ∈ Zi)) (fun v4 _ => n - (intOf v4).toNat)
  case atStart => exact ⟨0, Z, rfl, Nat.zero_le _, by simpa using HBK.out, fun z hz => hz, fun j hj => by omega⟩
  case round =>
    obtain ⟨i, Zi, rfl, hi, hbk, hz, hj⟩ := hrel
    replace HBK := hid hbk; have HZ := hid hz; have HJ := hid hj
    clear hz hj
    by_cases hin : i < n
    · have hiI : (i : Int) < (n : Int) := by omega
      have ho := hbk.own (r := wOuterV oa oc n vs) (.inr (by simp))
      obtain ⟨a1, c1, hv1, hc1⟩ : ∃ g cur, (oa = some ⟨g, 0, none⟩ ∧ wr.heap[g]? = some (.cells cur 50 (0, 0))) ∧ (cur.toList.take (n * 1)) = (List.range n).map vs := by
        rcases ho.2 with ⟨e, _⟩ | ⟨g, cap, cur, e, _, hh, _, _, _, ht⟩
        · simp only [wOuterV, Value.slice.injEq] at e
          omega
        · simp only [wOuterV, Value.slice.injEq] at e
          exact ⟨g, cur, ⟨e.1, hh⟩, by simpa [wOuterV] using ht⟩
      obtain rfl := hv1.1
      have c0 : wr.cell? ⟨a1, i, none⟩ = some (vs i) := by
        have h2 : c1[i]? = some (vs i) := by
          have h3 : (c1.toList.take (n * 1))[i]? = some (vs i) := by rw [hc1]; simp [hin]
          rw [List.getElem?_take, if_pos (by omega)] at h3
          simpa using h3
        simp [World.cell?, hv1.2, h2]
      have cl := (Array.getElem?_eq_some_iff.1 hv1.2).1
      rw [wRowsI_drop hin] at hbk
      replace HBK := hid hbk
      clear ho hv1 hc1 hbk
      go_wp2_with fail
      refine (BkF.giveI (R := (wRowsI n vs f).drop (i + 1) ++ wOuterV (some ⟨a1, 0, none⟩) oc n vs :: R) HBK.out rfl rfl (HF.out i hin)).mono ?_
      rintro e w2 ⟨rfl, hbk⟩
      replace HBK := hid hbk
      clear hbk c0 cl
      go_wp2_with fail
      go_roundw
      case rel => exact ⟨i + 1, _, by go_num, by omega, HBK.out, fun z hz => List.mem_cons_of_mem _ (HZ.out z hz), fun j hj => by
        rcases Nat.eq_or_lt_of_le (show j ≤ i by omega) with e | e
        · subst e; exact List.mem_cons_self ..
        · exact List.mem_cons_of_mem _ (HJ.out j e)⟩
      case measure => simp [intOf]; omega
    · obtain rfl : n = i := by omega
      have hdr : (wRowsI n vs f).drop n = [] := List.drop_eq_nil_of_le (by unfold wRowsI; simp)
      rw [hdr, List.nil_append] at hbk
      have hgv := BkF.giveN (R := R) hbk (by omega) (fun x hx => by
        obtain ⟨j, hj, rfl⟩ := List.mem_map.1 hx
        have hjn := List.mem_range.1 hj
        exact ⟨_, HJ.out j hjn, rfl, rfl, rfl, f j, HF.out j hjn, rfl, rfl⟩)
      have HGV := hid hgv
      clear hdr hgv hbk
      go_wp2_with fail
      refine HGV.out.mono ?_
      rintro e w2 ⟨rfl, hbk⟩
      have HB2 := hid hbk
      clear hbk
      go_wp2_with fail
      first
        | (go_end0; exact ⟨rfl, _, HB2.out, fun z hz => List.mem_cons_of_mem _ (HZ.out z hz)⟩)
        | (refine bodyPost_end0 ?_; exact ⟨rfl, _, HB2.out, fun z hz => List.mem_cons_of_mem _ (HZ.out z hz)⟩)
end Go.Proofs.YtbaccmlfnbgehaaGreatDoor
namespace Go.Proofs.YtbaccmlfnbgehaaGreatDoor
open Go.RowKit Pl
def fil (label : Int) (ss : List S) : List Value := (ss.filter (fun s => s.1 == label)).map fun s => .int .i64 s.2
theorem fil_snoc (label : Int) (ss : List S) (k : Nat) (h : k < ss.length) : fil label (ss.take (k+1)) = fil label (ss.take k) ++ (if (ss.getD k (0,0)).1 == label then [.int .i64 (ss.getD k (0,0)).2] else []) := by
  rw [List.take_succ_eq_append_getElem h]
  unfold fil
  rw [List.filter_append, List.map_append]
  simp only [List.getD, List.getElem?_eq_getElem h, Option.getD_some]
  by_cases hx : (ss[k].1 == label) = true <;> simp [List.filter, hx]
theorem fil_le (label : Int) (ss : List S) (k : Nat) : (fil label (ss.take k)).length ≤ ss.length := by
  unfold fil; rw [List.length_map]; exact Nat.le_trans (List.length_filter_le _ _) (by simp; omega)
set_option maxRecDepth 100000 in
theorem with_any (a : Option Addr) (b off c : Nat) (ss : List S) (label : Int) (w : World) (hlen : ss.length ≤ 20000)
    (ha : 0 < ss.length → a = some ⟨b, off, none⟩) (hb : b < w.heap.size)
    (h0 : ∀ i, i < ss.length → w.cell? ⟨b, off + i * 2, none⟩ = some (.int .i64 (ss.getD i (0,0)).1))
    (h1 : ∀ i, i < ss.length → w.cell? ⟨b, off + i * 2 + 1, none⟩ = some (.int .i64 (ss.getD i (0,0)).2)) :
    Calls Tryz.prog 194 #[.slice a ss.length c, .int .i64 label] w fun e w' =>
      ∃ v, e = .returned v ∧ w'.ownsRow w.heap.size 3 1 v ((fil label ss).length) (fil label ss) ∧ Below w.heap.size w w' := by
  go_enter Tryz.func194, Tryz.ntmps194
  go_wp2
  go_loopw [5, 10] (fun v i wr => ∃ k : Nat, k ≤ ss.length ∧ i = .int .i64 k ∧ wr.ownsRow w.heap.size 3 1 v ((fil label (ss.take k)).length) (fil label (ss.take k)) ∧ Below w.heap.size w wr)
    (fun _ i _ => ss.length - (intOf i).toNat)
  case atStart => exact ⟨0, Nat.zero_le _, rfl, World.ownsRow_nil _ _ _ _, Below.refl _ _⟩
  case round =>
    obtain ⟨k, hk, rfl, hown, hnx⟩ := hrel
    by_cases hlt : k < ss.length
    · obtain rfl := ha (by omega)
      have hs := fil_snoc label ss k hlt
      obtain ⟨x, hx⟩ : ∃ x, x = ss.getD k (0,0) := ⟨_, rfl⟩
      have hc0 : wr.cell? ⟨b, off + k * 2, none⟩ = some (.int .i64 x.1) := by rw [hx]; exact (hnx.cell (by exact hb)).trans (h0 k hlt)
      have hc1 : wr.cell? ⟨b, off + k * 2 + 1, none⟩ = some (.int .i64 x.2) := by rw [hx]; exact (hnx.cell (by exact hb)).trans (h1 k hlt)
      have hbr : b < wr.heap.size := Nat.lt_of_lt_of_le hb hnx.size
      rw [← hx] at hs
      have hle := fil_le label ss k
      have hsz := hnx.size
      clear h0 h1 hx ha
      generalize fil label (ss.take k) = f at *
      by_cases hxl : (x.1 == label) = true
      · rw [if_pos hxl] at hs
        have HS := Lib.hid hs; clear hs
        go_wp2_with (at_builtin; refine wpList_app rfl _ _ _ rfl rowI ((hnx.alloc hsz _).alloc (by simp; omega) _) (by simp; omega) rfl ((hown.alloc _).alloc _) ⟨wr.heap.size + 1, 0, none⟩ 1 1 [.int .i64 x.2] rfl rfl (cells1 (by simp [go_sem])) (by simp [Value.oneCell']) (by omega) (by unfold maxLen; omega) ?_; intro v' w1 hown1 hb1 _)
        clear hown hnx
        go_roundw
        case rel => exact ⟨k + 1, by omega, by go_num, by rw [HS.out]; simpa using hown1, hb1⟩
        case measure => simp [intOf]; omega
      · rw [if_neg hxl] at hs
        have hxl' : (x.1 == label) = false := by simpa using hxl
        have HS := Lib.hid hs; clear hs
        clear hxl
        go_wp2
        go_roundw
        case rel => exact ⟨k + 1, by omega, by go_num, by rw [HS.out]; simpa using hown.alloc _, hnx.alloc hsz _⟩
        case measure => simp [intOf]; omega
    · clear h0 h1 ha
      go_wp2
      go_ret
      have : k = ss.length := by omega
      subst this
      exact ⟨_, rfl, by simpa using hown, hnx⟩
set_option maxRecDepth 100000 in
theorem with_nil (a : Option Addr) (c : Nat) (label : Int) (w : World) :
    Calls Tryz.prog 194 #[.slice a 0 c, .int .i64 label] w fun e w' =>
      ∃ v, e = .returned v ∧ w'.ownsRow w.heap.size 3 1 v 0 [] ∧ Below w.heap.size w w' := by
  go_enter Tryz.func194, Tryz.ntmps194
  go_wp2
  refine wp_loop_rounds 1 ?_
  rw [rounds_succ]
  go_wp2
  go_ret
  exact ⟨_, rfl, World.ownsRow_nil _ _ _ _, Below.refl _ _⟩
theorem fil_flat (label : Int) (ss : List S) : fil label ss = (((ss.filter (fun s => s.1 == label)).map fun s => s.2)).flatMap encI := by
  unfold fil
  rw [List.flatMap_map]
  induction (ss.filter (fun s => s.1 == label)) with
  | nil => rfl
  | cons x l ih => simp [ih, encI]
def withL (label : Int) (ss : List S) : List Int := (ss.filter (fun s => s.1 == label)).map fun s => s.2
theorem with_sl {a : Option Addr} {b off c : Nat} {ss : List S} {w : World} (h : SlAt encS 2 w a b off ss) (hlen : ss.length ≤ 20000) (label : Int) :
    Calls Tryz.prog 194 #[.slice a ss.length c, .int .i64 label] w fun e w' =>
      ∃ v, e = .returned v ∧ w'.ownsRow w.heap.size 3 1 v (withL label ss).length ((withL label ss).flatMap encI) ∧ Below w.heap.size w w' := by
  by_cases h0 : 0 < ss.length
  · refine (with_any a b off c ss label w hlen h.ad (h.lt h0) (fun i hi => ?_) (fun i hi => ?_)).mono ?_
    · obtain ⟨x, hx⟩ := getElem?_of_lt hi
      rw [List.getD, hx]; exact h.s0 hx
    · obtain ⟨x, hx⟩ := getElem?_of_lt hi
      rw [List.getD, hx]; exact h.s1 hx
    · rintro e w' ⟨v, rfl, ho, hB⟩
      rw [fil_flat] at ho
      refine ⟨v, rfl, ?_, hB⟩
      have hl : (withL label ss).length = ((withL label ss).flatMap encI).length := by rw [length_flatMap lenI]; omega
      unfold withL at *
      rw [hl]; exact ho
  · have hz : ss = [] := List.eq_nil_of_length_eq_zero (by omega)
    subst hz
    exact with_nil a c label w
end Go.Proofs.YtbaccmlfnbgehaaGreatDoor
namespace Go.Proofs.YtbaccmlfnbgehaaGreatDoor
open Go.RowKit Pl
open Lib (hid)
theorem fldSys0 (x y z : Int) (v : Value) (w : World) : (Instr.field 24 (.agg #[.int .i64 x, .int .i64 y, .int .i64 z, v]) 0).run Tryz.prog w = .ok (.int .i64 x) w := by kernel_rfl
theorem fldSys2 (x y z : Int) (v : Value) (w : World) : (Instr.field 24 (.agg #[.int .i64 x, .int .i64 y, .int .i64 z, v]) 2).run Tryz.prog w = .ok (.int .i64 z) w := by kernel_rfl
theorem fldSys3 (x y z : Int) (v : Value) (w : World) : (Instr.field 24 (.agg #[.int .i64 x, .int .i64 y, .int .i64 z, v]) 3).run Tryz.prog w = .ok v w := by kernel_rfl
theorem outs_len {s : Lts} (h : s.Right) (i : Int) : (s.outs i).length ≤ 10000 := by
  have := h.st0
  unfold Lts.outs; rw [List.length_map]
  have := List.length_filter_le (fun x => x.1 == i) s.es; omega
theorem ins_len {s : Lts} (h : s.Right) (i : Int) : (s.ins i).length ≤ 10000 := by
  have := h.st0
  unfold Lts.ins; rw [List.length_map]
  have := List.length_filter_le (fun x => x.2.2 == i) (nf ltB s.es)
  have := length_nf (lt := ltB) s.es; omega
set_option maxRecDepth 100000 in
theorem own_any {w : World} {gb : Nat} {s : Lts} (h : GraphAt w gb s) :
    Calls Tryz.prog 162 #[.pointer (some ⟨gb, 0, none⟩)] w fun e w' => ∃ a c b off, e = .returned (.agg #[.int .i64 s.st, .int .i64 s.lb, .int .i64 s.s0, .slice a s.es.length c]) ∧ s.es.length ≤ c ∧ SlAt encE 3 w' a b off s.es ∧ Below w.heap.size w w' := by
  obtain ⟨ve, oa, of, ia, if_, h1, ⟨a, c, b, off, rfl, hcc, h3⟩, _, _⟩ := h.blk
  have c0 : w.cell? ⟨gb, 0, none⟩ = some (.int .i64 s.st) := by simp [World.cell?, h1]
  have c1 : w.cell? ⟨gb, 1, none⟩ = some (.int .i64 s.lb) := by simp [World.cell?, h1]
  have c2 : w.cell? ⟨gb, 2, none⟩ = some (.int .i64 s.s0) := by simp [World.cell?, h1]
  have c3 : w.cell? ⟨gb, 3, none⟩ = some (.slice a s.es.length c) := by simp [World.cell?, h1]
  have hgb := h.lt
  have H3 := hid h3
  clear h h1 h3
  go_enter Tryz.func162, Tryz.ntmps162
  go_wp2
  have hB : Below w.heap.size w _ := (Below.refl w.heap.size w).alloc (Nat.le_refl _) (Obj.cells #[.int .i64 s.st, .int .i64 s.lb, .int .i64 s.s0, .slice a s.es.length c] 24)
  exact bodyPost_ret (v := .agg #[.int .i64 s.st, .int .i64 s.lb, .int .i64 s.s0, .slice a s.es.length c]) (by simp [results, Tryz.results162, go_sem]) rfl ⟨a, c, b, off, rfl, hcc, H3.out.below hB (Nat.le_refl _), hB⟩
set_option maxRecDepth 100000 in
theorem getStates_any {w : World} {gb : Nat} {s : Lts} (h : GraphAt w gb s) :
    Calls Tryz.prog 131 #[.pointer (some ⟨gb, 0, none⟩)] w fun e w' => e = .returned (.int .i64 s.st) ∧ Below w.heap.size w w' := by
  have HO := hid (own_any h); clear h
  have hfl := fldSys0
  have hfl := fldSys0
  have hfl := fldSys0
  go_enter Tryz.func131, Tryz.ntmps131
  go_wp2_with (go_at_call 162; refine (HO.out).mono ?_; rintro e w1 ⟨a, c, b, off, rfl, hcc, hS, hB⟩; have HS := hid hS; clear hS)
  go_ret
  exact ⟨rfl, hB⟩
set_option maxRecDepth 100000 in
theorem getFrom_any {w : World} {gb : Nat} {s : Lts} (h : GraphAt w gb s) (i label : Int) :
    Calls Tryz.prog 176 #[.pointer (some ⟨gb, 0, none⟩), .int .i64 i, .int .i64 label] w fun e w' => ∃ v, e = .returned v ∧ w'.ownsRow w.heap.size 3 1 v (withL label (s.ins i)).length ((withL label (s.ins i)).flatMap encI) ∧ Below w.heap.size w w' := by
  have hl : (s.ins i).length ≤ 20000 := by have := ins_len h.right i; omega
  have HO := hid (back_any h (Below.refl _ w) i); clear h
  go_enter Tryz.func176, Tryz.ntmps176
  go_wp2_with (go_at_call 195; refine (HO.out).mono ?_; rintro e w1 ⟨⟨a, c, b, off, rfl, hc1, hc2, hS⟩, hB⟩; have HS := hid hS; clear hS)
  have hsz := hB.size
  refine (with_sl (HS.out.below hB (Nat.le_refl _)) hl label).mono ?_
  rintro e w2 ⟨v, rfl, hown, hB2⟩
  have HW := hid hown; clear hown
  go_wp2
  go_ret
  exact ⟨v, rfl, own_mono HW.out hsz, hB.trans (hB2.mono hsz)⟩
end Go.Proofs.YtbaccmlfnbgehaaGreatDoor

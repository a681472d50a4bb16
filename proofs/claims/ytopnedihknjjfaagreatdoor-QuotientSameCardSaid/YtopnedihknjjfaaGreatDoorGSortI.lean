/-
  slices.Sort at ints, by the shelf's contract, on a row of the call's own.
  slices.Clone at numbers; refine.Partition: Members.
-/
import Derived.Test.YtopnedihknjjfaaGreatDoorGOrder
import Derived.Lib.OwnBridge
import Derived.Sort.OwnSortedInts
import Derived.Test.YtopnedihknjjfaaGreatDoorGParA
import Derived.Test.YtopnedihknjjfaaGreatDoorGFrs
namespace Go.Proofs.YtopnedihknjjfaaGreatDoor
open Go.RowKit Pl Go.Sort Go.Shelf Go.Lib

theorem flat_encI (L : List Int) : L.flatMap encI = L.map (Value.int .i64) := by
  induction L with
  | nil => rfl
  | cons x l ih => rw [List.flatMap_cons, ih]; rfl

theorem below_putRowI {w0 w : World} {B g m : Nat} {os : Array Obj} {d : Array Int} (h : RowKit.Below B w0 w) (hb : B ≤ g) (hg : g < w.heap.size) : RowKit.Below B w0 (grow (putRow (Value.int .i64) (Sort.ahead w m) g 0 d) os) :=
  h.trans ⟨rfl, rfl, rfl, by simp [grow, putRow, mapBlock, Sort.ahead], fun i hi => by
    unfold grow putRow mapBlock Sort.ahead
    simp only
    rw [Array.getElem?_append_left (by simp; omega), Array.getElem?_modify, if_neg (by omega)]⟩

theorem sortI_v {base : Nat} {v : Value} {L : List Int} {w : World} (h : w.ownsRow base 3 1 v L.length (L.flatMap encI)) (hl : L.length ≤ 1000000) :
    Calls Tryz.prog 68 #[v] w fun e w' => e = .returned (.tuple #[]) ∧
      w'.ownsRow base 3 1 v (L.mergeSort fun x y => decide (x ≤ y)).length ((L.mergeSort fun x y => decide (x ≤ y)).flatMap encI) ∧ (∀ {w0 : World}, RowKit.Below base w0 w → RowKit.Below base w0 w') := by
  have hlen : (L.mergeSort fun x y => decide (x ≤ y)).length = L.length := (List.mergeSort_perm L _).length_eq
  rw [flat_encI] at h
  rw [flat_encI, hlen]
  rcases h.2 with ⟨rfl, hn⟩ | ⟨g, cap, cur, rfl, hbg, hg, hnc, hcm, hcs, htake⟩
  · have hx : L = [] := List.eq_nil_of_length_eq_zero hn
    subst hx
    have hcon := Any.slices_Sort_int_none Tryz.sortI none 0 w
    change Calls Tryz.prog 68 _ _ _ at hcon
    refine hcon.mono ?_
    rintro e w' ⟨rfl, rfl⟩
    exact ⟨rfl, by simpa using h, fun hB => hB⟩
  · obtain ⟨g', cap', hv, _, hlt, _, _, _, hH⟩ := holds_of_ownsRow (enc := Value.int .i64) h (by simp)
    simp only [Value.slice.injEq, Option.some.injEq, Addr.mk.injEq, and_true, true_and] at hv
    obtain ⟨rfl, rfl⟩ := hv
    have hcon := Any.slices_Sort_int Tryz.sortI g 0 cap L w hH hlt (by omega)
    change Calls Tryz.prog 68 _ _ _ at hcon
    refine hcon.mono ?_
    rintro e w' ⟨rfl, m, os, rfl⟩
    exact ⟨rfl, ownsRow_sortedI hlen hbg hg hnc hcm hcs, fun hB => below_putRowI hB hbg hlt⟩

end Go.Proofs.YtopnedihknjjfaaGreatDoor

namespace Go.Proofs.YtopnedihknjjfaaGreatDoor
open Go.RowKit Pl

set_option maxRecDepth 100000 in
theorem cloneI_any {a : Option Addr} {b off c : Nat} {xs : List Int} {w : World} (h : SlAt encI 1 w a b off xs) (hl : xs.length ≤ 1000000) :
    Calls Tryz.prog 158 #[.slice a xs.length c] w fun e w' => ∃ v, e = .returned v ∧ w'.ownsRow w.heap.size 3 1 v xs.length (xs.flatMap encI) ∧ Below w.heap.size w w' := by
  cases a with
  | none =>
    have hx : xs = [] := by
      cases xs with
      | nil => rfl
      | cons x l => have := h.ad (by simp); cases this
    subst hx
    have heq := fun (w : World) => Lib.run_eql_slice_nil (P := Tryz.prog) w 27 3 none 0 c 0 0 Tryz.underlying27
    clear h
    go_enter Tryz.func158, Tryz.ntmps158
    go_wp2
    go_ret
    exact ⟨_, rfl, World.ownsRow_nil _ _ _ _, Below.refl _ _⟩
  | some ad =>
    have heq := fun (w : World) => Lib.run_eql_slice_nil (P := Tryz.prog) w 27 3 (some ad) xs.length c 0 0 Tryz.underlying27
    have hnews : ∀ j u, (xs.flatMap encI)[j]? = some u → w.cell? (ad.add j) = some u := by
      intro j u hu
      have hj := (List.getElem?_eq_some_iff.1 hu).1
      rw [length_flatMap lenI] at hj
      have hp : 0 < xs.length := by cases xs <;> simp at *
      have := h.ad hp
      simp at this; subst this
      exact slAt_flat lenI h j u hu
    have hlen : (xs.flatMap encI).length = xs.length * 1 := length_flatMap lenI xs
    have h1 : ∀ u ∈ xs.flatMap encI, u.oneCell' = true := by
      intro u hu
      obtain ⟨x, _, hx⟩ := List.mem_flatMap.1 hu
      simp [encI] at hx
      subst hx; rfl
    have HN := Lib.hid hnews; have HL := Lib.hid hlen; have H1 := Lib.hid h1
    clear h hnews hlen h1
    generalize xs.flatMap encI = news at *
    go_enter Tryz.func158, Tryz.ntmps158
    go_wp2_with (at_builtin; refine wpList_app rfl _ _ _ rfl rowI ((Below.refl w.heap.size w).alloc (Nat.le_refl _) _) (by simp) rfl (World.ownsRow_made w #[] 0 (Nat.le_refl _) (by decide) (by simp)) ad xs.length c news rfl HL.out (fun j u hu => cell_alloc_of (HN.out j u hu)) H1.out (by omega) (by unfold maxLen; omega) ?_; intro v' w1 hown1 hb1 _)
    go_ret
    exact ⟨_, rfl, by simpa using hown1, hb1⟩

section
variable {w0 w : World} {K : PK} {n : Nat} {el pl inn : Nat → Nat} {bl : List B3} {rest : List Rw}

theorem elRow_len (el : Nat → Nat) (x : B3) : (elRow el x).length = x.2.1 - x.1 := by simp [elRow]
/-- A block's elements read as a list. -/
theorem Rws.pRow (h : Rws w0 w (PR K n el pl inn bl ++ rest)) {x : B3} (hx : x.1 < x.2.1) (hn : x.2.1 ≤ n) : SlAt encI 1 w (some ⟨K.eb, x.1, none⟩) K.eb x.1 ((elRow el x).map Int.ofNat) :=
  ⟨fun _ => rfl, fun _ => h.pLts.2.1, fun i y hy j u hu => by
    have hi := (List.getElem?_eq_some_iff.1 hy).1
    rw [List.length_map, elRow_len] at hi
    have hj := (List.getElem?_eq_some_iff.1 hu).1
    rw [lenI] at hj
    obtain rfl : j = 0 := by omega
    have hye : y = (el (x.1 + i) : Int) := by
      unfold elRow at hy
      rw [List.map_map, List.getElem?_map, List.getElem?_range' (by omega)] at hy
      simpa using hy.symm
    simp only [encI, List.getElem?_cons_zero, Option.some.injEq] at hu
    rw [← hu, hye, Nat.mul_one, Nat.add_zero]
    exact h.pEl (by omega)⟩

/-- What Members answers. -/
def MembersPost (w : World) (M : List Int) (e : Ending) (w' : World) : Prop :=
  ∃ v, e = .returned (.tuple #[v, .nilIface]) ∧ w'.ownsRow w.heap.size 3 1 v M.length (M.flatMap encI) ∧ Below w.heap.size w w'

set_option maxRecDepth 100000 in
set_option maxHeartbeats 1000000 in
theorem members_any (h : PW w0 w K n el pl inn bl rest) {b : Nat} (hb : b < bl.length) :
    Calls Tryz.prog 126 #[.pointer (some ⟨K.pb, 0, none⟩), .int .i64 b] w (MembersPost w ((memN n inn b).map Int.ofNat)) := by
  obtain ⟨x, hx⟩ : ∃ x, bl[b]? = some x := ⟨_, List.getElem?_eq_getElem hb⟩
  obtain ⟨b1, b2, b3⟩ := h.pi.blk b x hx
  have hn := h.n1
  have hB := Lib.hid (parBlocks_any h.rws)
  have hA := Lib.hid (asked_ok w K.pb b bl.length hb)
  have hR := Lib.hid (parRow_any h hx)
  have hM := sort_memN (n := n) (f := inn) (b := b) (L := (elRow el x).map Int.ofNat) (by
    have := h.pi.rowE_nodup hx
    unfold List.Nodup at this ⊢
    rw [List.pairwise_map]
    exact this.imp (fun {a b} hab e => hab (Int.ofNat.inj e))) (fun y => by
    simp only [List.mem_map]
    constructor
    · rintro ⟨e, he, rfl⟩; exact ⟨e, (h.pi.rowE_mem hx e).1 he, rfl⟩
    · rintro ⟨e, he, rfl⟩; exact ⟨e, (h.pi.rowE_mem hx e).2 he, rfl⟩)
  obtain ⟨L, hL⟩ : ∃ L, L = (elRow el x).map Int.ofNat := ⟨_, rfl⟩
  have hLl : L.length = x.2.1 - x.1 := by rw [hL, List.length_map, elRow_len]
  have HP : RowKit.Hid (∀ W, Below w.heap.size w W → SlAt encI 1 W (some ⟨K.eb, x.1, none⟩) K.eb x.1 L) := Lib.hid (fun W hW => by rw [hL]; exact (h.rws.call hW).pRow b1 b2)
  rw [← hL] at hM
  have HM := Lib.hid hM; have HLL := Lib.hid hLl
  have hl1 : L.length ≤ 1000000 := by omega
  rw [← hLl] at hR
  clear h hx hM hL hLl
  go_enter Tryz.func126, Tryz.ntmps126
  go_wp2_with fail
  refine hB.out.mono ?_
  rintro e w1 ⟨rfl, rfl⟩
  go_wp2_with fail
  refine hA.out.mono ?_
  rintro e w1 ⟨rfl, rfl⟩
  go_wp2_with fail
  refine hR.out.mono ?_
  rintro e w1 ⟨rfl, hB1⟩
  have HB1 := Lib.hid hB1
  have HC := Lib.hid (cloneI_any (c := L.length) (HP.out _ hB1) hl1)
  clear hB1
  go_wp2_with fail
  refine HC.out.mono ?_
  rintro e w2 ⟨v, rfl, hown, hB2⟩
  have HS := Lib.hid (sortI_v hown hl1)
  have HB2 := Lib.hid hB2
  clear hown hB2 HC HP
  go_wp2_with fail
  refine HS.out.mono ?_
  rintro e w3 ⟨rfl, hown, hk⟩
  have hB3 := HB1.out.trans ((hk HB2.out).mono HB1.out.size)
  rw [HM.out] at hown
  have HO := Lib.hid (own_mono hown HB1.out.size); have HB3 := Lib.hid hB3
  clear hown hk hB3
  go_wp2_with fail
  go_ret2
  exact ⟨v, rfl, HO.out, HB3.out⟩
end
end Go.Proofs.YtopnedihknjjfaaGreatDoor

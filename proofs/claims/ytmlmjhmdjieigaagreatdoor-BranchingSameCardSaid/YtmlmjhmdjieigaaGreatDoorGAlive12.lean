/-
  law12.small, law12.alive.
  Plain: the blocks of tauscc.Order's list: each cycle's states stand one behind the other, behind all that silent steps lead to from them.
-/
import Derived.Test.YtmlmjhmdjieigaaGreatDoorGBrV
import Derived.Test.YtmlmjhmdjieigaaGreatDoorBrB
import Derived.Test.YtmlmjhmdjieigaaGreatDoorGOrdP
import Derived.Test.YtmlmjhmdjieigaaGreatDoorGBrC
namespace Go.Proofs.YtmlmjhmdjieigaaGreatDoor
open Go.RowKit Pl

set_option maxRecDepth 100000 in
theorem small12_any (s0 st lb : Int) (a : Option Addr) (m c : Nat) (w : World) :
    Calls Tryz.prog 7 #[.agg #[.int .i64 st, .int .i64 lb, .int .i64 s0, .slice a m c]] w fun e w' => e = .returned (.bool (decide (st ≤ 40) && decide (m ≤ 250))) ∧ Below w.heap.size w w' := by
  have hb := (Below.refl w.heap.size w).alloc (Nat.le_refl _) (.cells #[.int .i64 st, .int .i64 lb, .int .i64 s0, .slice a m c] 24)
  by_cases h1 : st ≤ 40
  · have e1 : decide (st ≤ 40) = true := by simp [h1]
    have HE1 := Lib.hid e1
    by_cases h2 : m ≤ 250
    · have e2 : decide (m ≤ 250) = true := by simp [h2]
      have HE2 := Lib.hid e2
      have h2' : (m : Int) ≤ 250 := by omega
      clear e1 e2
      rw [HE1.out, HE2.out]
      go_enter Tryz.func7, Tryz.ntmps7
      go_wp2
      go_ret
      exact ⟨rfl, hb⟩
    · have e2 : decide (m ≤ 250) = false := by simp [h2]
      have HE2 := Lib.hid e2
      have h2' : ¬ (m : Int) ≤ 250 := by omega
      clear e1 e2
      rw [HE1.out, HE2.out]
      go_enter Tryz.func7, Tryz.ntmps7
      go_wp2
      go_ret
      exact ⟨rfl, hb⟩
  · have e1 : decide (st ≤ 40) = false := by simp [h1]
    rw [e1, Bool.false_and]
    clear e1
    go_enter Tryz.func7, Tryz.ntmps7
    go_wp2
    go_ret
    exact ⟨rfl, hb⟩

namespace Pl
def al12 : Lts := ⟨5, 2, 0, [(0, 1, 4), (1, 0, 0), (2, 0, 3), (2, 1, 4)]⟩
theorem al12_right : al12.Right := ⟨by unfold HeadBad al12; simp, by decide⟩
theorem al12_norm : al12.norm = al12 := by
  unfold Lts.norm
  have : nf ltE al12.es = al12.es := by decide
  rw [this]
theorem al12_stp {a b : Nat} {l : Int} : stp al12 a l b ↔ (a = 0 ∧ l = 1 ∧ b = 4) ∨ (a = 1 ∧ l = 0 ∧ b = 0) ∨ (a = 2 ∧ l = 0 ∧ b = 3) ∨ (a = 2 ∧ l = 1 ∧ b = 4) := by
  unfold stp al12
  simp only [List.mem_cons, Prod.mk.injEq, List.not_mem_nil, or_false]
  omega
theorem al12_big {C : Nat → Int} (h : BrBig al12 5 C) : C 1 = C 0 ∧ C 2 ≠ C 0 := by
  have s0 : stp al12 0 1 4 := al12_stp.2 (.inl ⟨rfl, rfl, rfl⟩)
  have s1 : stp al12 1 0 0 := al12_stp.2 (.inr (.inl ⟨rfl, rfl, rfl⟩))
  have s2 : stp al12 2 0 3 := al12_stp.2 (.inr (.inr (.inl ⟨rfl, rfl, rfl⟩)))
  have s3 : stp al12 2 1 4 := al12_stp.2 (.inr (.inr (.inr ⟨rfl, rfl, rfl⟩)))
  constructor
  · refine h.all (fun a b => a = b ∨ (a = 1 ∧ b = 0) ∨ (a = 0 ∧ b = 1)) ⟨?_, ?_⟩ 1 0 (by omega) (by omega) (.inr (.inl ⟨rfl, rfl⟩))
    · rintro a b ha hb (rfl | ⟨rfl, rfl⟩ | ⟨rfl, rfl⟩) l t ht hs
      · exact .inr ⟨a, t, .refl ⟨ha, .inl rfl⟩, ht, hs, .inl rfl⟩
      · have := al12_stp.1 hs
        obtain ⟨rfl, rfl⟩ : l = 0 ∧ t = 0 := by omega
        exact .inl ⟨rfl, .inl rfl⟩
      · exact .inr ⟨0, t, .tail (.refl ⟨hb, .inr (.inr ⟨rfl, rfl⟩)⟩) s1 ⟨ha, .inl rfl⟩, ht, hs, .inl rfl⟩
    · rintro a b ha hb (rfl | ⟨rfl, rfl⟩ | ⟨rfl, rfl⟩) l t ht hs
      · exact .inr ⟨a, t, .refl ⟨ha, .inl rfl⟩, ht, hs, .inl rfl⟩
      · exact .inr ⟨0, t, .tail (.refl ⟨ha, .inr (.inl ⟨rfl, rfl⟩)⟩) s1 ⟨hb, .inl rfl⟩, ht, hs, .inl rfl⟩
      · have := al12_stp.1 hs
        obtain ⟨rfl, rfl⟩ : l = 0 ∧ t = 0 := by omega
        exact .inl ⟨rfl, .inl rfl⟩
  · intro e
    have no3 : ∀ l x, ¬ Sg al12 C 3 l x := fun l x hs => by
      cases hs with
      | here h1 _ => have := al12_stp.1 h1; omega
      | on h1 _ _ => have := al12_stp.1 h1; omega
    by_cases h3 : C 3 = C 2
    · exact no3 _ _ (h.still 2 3 (by omega) (by omega) h3.symm 1 (C 4) (.here s3 (fun k => by have := k.1; omega)))
    · have hg := h.still 2 0 (by omega) (by omega) e 0 (C 3) (.here s2 (fun k => h3 k.2))
      obtain ⟨x, hx⟩ : ∃ x, x = C 3 := ⟨_, rfl⟩
      rw [← hx] at hg
      cases hg with
      | here h1 _ => have := al12_stp.1 h1; omega
      | on h1 _ _ => have := al12_stp.1 h1; omega
theorem al12_res {R : List Int} (h : BrRes al12 5 R) : R.length = 5 ∧ R[1]? = some 0 ∧ R[2]? = some 1 := by
  refine ⟨h.len, ?_⟩
  obtain ⟨C, hb, hR, hc, _⟩ := h.big al12_right rfl
  obtain ⟨h1, h2⟩ := al12_big hb
  have hfl : fl 5 C = [C 0, C 0, C 2] ++ [C 3, C 4] := by rw [← h1]; unfold fl; simp [List.range, List.range.loop, h1]
  have hd : dist [C 0, C 0, C 2] = [C 0, C 2] := by
    unfold dist addN
    simp [h2]
  have k0 : (dist (fl 5 C)).idxOf (C 0) = 0 := by
    rw [hfl, idx_append _ _ (by simp), hd]; simp
  have k2 : (dist (fl 5 C)).idxOf (C 2) = 1 := by
    rw [hfl, idx_append _ _ (by simp), hd]
    have hb2 : (C 0 == C 2) = false := by simp [Ne.symm h2]
    simp [List.idxOf_cons, hb2]
  have g1 : R[1]? = some (C 1) := by rw [hR]; exact fl_get (n := 5) (i := 1) C (by omega)
  have g2 : R[2]? = some (C 2) := by rw [hR]; exact fl_get (n := 5) (i := 2) C (by omega)
  rw [← hc, canon_get, canon_get, g1, g2, hR]
  simp only [Option.map_some]
  rw [h1, k0, k2]
  exact ⟨rfl, rfl⟩
def cl12 (j : Nat) : Int := if j < 2 then 0 else if j = 2 then 1 else 2
theorem cl12_fl : fl 5 cl12 = [0, 0, 1, 2, 2] := by decide
end Pl

theorem slAt_lits {w : World} {b : Nat} {xs : List Int} (h : w.heap[b]? = some (.cells (xs.map (fun x => (Value.int .i64 x))).toArray 3 (0, 0))) : SlAt encI 1 w (some ⟨b, 0, none⟩) b 0 xs where
  ad _ := rfl
  lt _ := (Array.getElem?_eq_some_iff.1 h).1
  cell := by
    intro i v hv j u hu
    match j, hu with
    | 0, hu =>
      simp [encI] at hu; subst hu
      simp [World.cell?, h, hv]

set_option maxRecDepth 100000 in
set_option maxHeartbeats 4000000 in
theorem alive12_any {w : World} {p : Addr} (hG : GErr 10 p w) (htab : Lib.TabIs Tryz.prog w "internal/strconv.uint64pow10" .u64 Lib.pow10Tab) :
    Calls Tryz.prog 8 #[] w fun e w' => e = .returned (.bool true) ∧ Below w.heap.size w w' := by
  have HG := Lib.hid hG; have HT := Lib.hid (Lib.tabBelow_of_tabIs htab)
  clear hG htab
  go_enter Tryz.func8, Tryz.ntmps8
  go_wp2_with fail
  have hS : SlAt encE 3 (w.alloc (.cells #[.int .i64 0, .int .i64 1, .int .i64 4, .int .i64 1, .int .i64 0, .int .i64 0, .int .i64 2, .int .i64 0, .int .i64 3, .int .i64 2, .int .i64 1, .int .i64 4] 54)) (some ⟨w.heap.size, 0, none⟩) w.heap.size 0 al12.es := by
    have h := World.ownsRow_lit (e := 54) (size := 3) (base := w.heap.size) w #[.int .i64 0, .int .i64 1, .int .i64 4, .int .i64 1, .int .i64 0, .int .i64 0, .int .i64 2, .int .i64 0, .int .i64 3, .int .i64 2, .int .i64 1, .int .i64 4] 4 (Nat.le_refl _) (by unfold maxLen; omega) rfl
    obtain ⟨a, c, b, hv, _, _, hs, _⟩ := slAt_own (xs := al12.es) lenE h
    simp only [Value.slice.injEq] at hv
    obtain ⟨rfl, _, _⟩ := hv
    have := hs.ad (by decide)
    simp at this
    subst this
    exact hs
  have hB0 := ((Below.refl w.heap.size w).alloc (Nat.le_refl _) (.cells #[.int .i64 0, .int .i64 1, .int .i64 4, .int .i64 1, .int .i64 0, .int .i64 0, .int .i64 2, .int .i64 0, .int .i64 3, .int .i64 2, .int .i64 1, .int .i64 4] 54)).alloc (by simp) (.cells #[.int .i64 5, .int .i64 2, .int .i64 0, .slice (some ⟨w.heap.size, 0, none⟩) 4 4] 24)
  have hx0 := heap_alloc_at (w.alloc (.cells #[.int .i64 0, .int .i64 1, .int .i64 4, .int .i64 1, .int .i64 0, .int .i64 0, .int .i64 2, .int .i64 0, .int .i64 3, .int .i64 2, .int .i64 1, .int .i64 4] 54)) (.cells #[.int .i64 5, .int .i64 2, .int .i64 0, .slice (some ⟨w.heap.size, 0, none⟩) 4 4] 24) (w.heap.size + 1) (by simp)
  have hS1 := hS.alloc (.cells #[.int .i64 5, .int .i64 2, .int .i64 0, .slice (some ⟨w.heap.size, 0, none⟩) 4 4] 24)
  refine (brClasses_any (s := al12) (n := 5) (c := 4) al12_right rfl (by decide) (HG.out.below hB0) (HT.out _ hB0) hS1).mono ?_
  unfold BrPost
  rintro e w1 ⟨R, ra, rb, rc, hres, rfl, _, hrs, hB1⟩
  obtain ⟨hRl, hR1, hR2⟩ := al12_res hres
  obtain rfl := hrs.ad (by omega)
  have hx1 := (hB1.block (w.heap.size + 1) (by simp)).trans hx0
  have hB1' := hB0.trans (hB1.mono (by simp; omega))
  have hS2 := hS1.below hB1 (Nat.le_refl _)
  have hBV := (Below.refl w1.heap.size w1).alloc (Nat.le_refl _) (.cells #[.int .i64 0, .int .i64 0, .int .i64 1, .int .i64 2, .int .i64 2] 3)
  have hbv := hB1'.trans (hBV.mono hB1'.size)
  have hcs0 : SlAt encI 1 (w1.alloc (.cells #[.int .i64 0, .int .i64 0, .int .i64 1, .int .i64 2, .int .i64 2] 3)) (some ⟨w1.heap.size, 0, none⟩) w1.heap.size 0 (fl 5 cl12) := by
    rw [cl12_fl]
    exact slAt_lits (heap_alloc_new w1 _)
  have HBT := Lib.hid (bottoms_any (s := al12) (n := 5) (c := 4) (cc := 5) al12_right rfl (HG.out.below hbv) (hS2.below hBV (Nat.le_refl _)) hcs0 (by rw [cl12_fl]; decide) (by rw [cl12_fl]; decide))
  have HBV := Lib.hid hbv; have HRS := Lib.hid (hrs.below hBV (Nat.le_refl _))
  have HR1 := Lib.hid hR1; have HR2 := Lib.hid hR2; have HRL := Lib.hid hRl
  obtain ⟨x0, x1, x2, x3, x4⟩ := sysB hx1
  clear hB0 hx0 hS hS1 hx1 hB1 hB1' hS2 hrs hres hBV hbv hcs0 hR1 hR2 hRl
  go_wp2_with fail
  refine HBT.out.mono ?_
  rintro e w2 ⟨zb, rfl, hrow, hB2⟩
  have hcs := HRS.out.below hB2 (Nat.le_refl _)
  have l1 := hcs.ci HR1.out
  have l2 := hcs.ci HR2.out
  have ll := hcs.lt (by rw [HRL.out]; omega)
  simp only [Nat.zero_add] at l1 l2
  have m1 := hrow.cell (i := 1) (by omega)
  have m2 := hrow.cell (i := 2) (by omega)
  have ml := hrow.lt
  rw [al12_norm] at m1 m2
  rw [show btmB al12 cl12 1 = false by decide] at m1
  rw [show btmB al12 cl12 2 = true by decide] at m2
  have HB2 := Lib.hid (HBV.out.trans (hB2.mono HBV.out.size))
  clear hcs hrow hB2 x0 x1 x2 x3 x4 HBT HBV HRS
  go_wp2_with fail
  go_ret
  exact ⟨rfl, HB2.out⟩
end Go.Proofs.YtmlmjhmdjieigaaGreatDoor

namespace Go.Proofs.YtmlmjhmdjieigaaGreatDoor
open Go.RowKit Pl

section
variable {s : Lts} {n : Nat} {f : Nat → Int} {D : List Nat}

/-- What Order's list is made of. -/
structure BlkO (s : Lts) (n : Nat) (f : Nat → Int) (D : List Nat) : Prop where
  right : s.Right
  st : s.st = (n : Int)
  cyc : Cyc s n f
  ord : OrdL (col s (fl n (clf n f))) (dist (fl n f)).length D
  all : ∀ k, k < (dist (fl n f)).length → k ∈ D
/-- A block. -/
def blkO (n : Nat) (f : Nat → Int) (k : Nat) : List Nat := memN (fl n (clf n f)) n k
/-- The list. -/
def ordO (n : Nat) (f : Nat → Int) (D : List Nat) : List Nat := D.flatMap (blkO n f)
/-- Where a block begins. -/
def offO (n : Nat) (f : Nat → Int) (D : List Nat) (d : Nat) : Nat := (ordO n f (D.take d)).length

theorem mem_blkO {x k : Nat} : x ∈ blkO n f k ↔ x < n ∧ asF n f x = k := by
  unfold blkO
  rw [mem_memN]
  constructor
  · rintro ⟨h1, h2⟩
    rw [fl_get _ h1, asF_eq h1] at h2
    simp only [Option.some.injEq] at h2
    exact ⟨h1, by omega⟩
  · rintro ⟨h1, rfl⟩
    exact ⟨h1, by rw [fl_get _ h1, asF_eq h1]⟩
theorem mem_ordO {x : Nat} {L : List Nat} : x ∈ ordO n f L ↔ x < n ∧ asF n f x ∈ L := by
  unfold ordO
  rw [List.mem_flatMap]
  constructor
  · rintro ⟨k, hk, hx⟩
    obtain ⟨h1, rfl⟩ := mem_blkO.1 hx
    exact ⟨h1, hk⟩
  · rintro ⟨h1, h2⟩
    exact ⟨_, h2, mem_blkO.2 ⟨h1, rfl⟩⟩
theorem ordO_K (n : Nat) (f : Nat → Int) (D : List Nat) : (D.flatMap fun k : Nat => memK (fl n (clf n f)) n (k : Int)) = (ordO n f D).map Int.ofNat := flat_N _ _ _
theorem BlkO.nodup (h : BlkO s n f D) : D.Nodup := h.ord.nodup
theorem BlkO.rng (h : BlkO s n f D) {k : Nat} (hk : k ∈ D) : k < (dist (fl n f)).length := h.ord.rng k hk
theorem BlkO.len (h : BlkO s n f D) : (ordO n f D).length = n := by
  have h1 := flat_le (fl n (clf n f)) n h.nodup
  have h2 := flat_all (C := fl n (clf n f)) (n := n) (M := (dist (fl n f)).length) (fun x hx => cls_in hx) h.all
  rw [ordO_K, List.length_map] at h1 h2
  omega
theorem BlkO.blk_pos (h : BlkO s n f D) {k : Nat} (hk : k ∈ D) : 0 < (blkO n f k).length := by
  have := memK_pos (cls_onto (h.rng hk))
  rw [memK_N, List.length_map] at this
  exact this
theorem offO_zero : offO n f D 0 = 0 := by simp [offO, ordO]
theorem take_succ {d k : Nat} (hd : D[d]? = some k) : D.take (d + 1) = D.take d ++ [k] := by rw [List.take_add_one, hd]; rfl
theorem ordO_succ {d k : Nat} (hd : D[d]? = some k) : ordO n f (D.take (d + 1)) = ordO n f (D.take d) ++ blkO n f k := by
  rw [take_succ hd]; simp [ordO]
theorem offO_succ {d k : Nat} (hd : D[d]? = some k) : offO n f D (d + 1) = offO n f D d + (blkO n f k).length := by
  unfold offO; rw [ordO_succ hd, List.length_append]
theorem ordO_split {d k : Nat} (hd : D[d]? = some k) : ordO n f D = ordO n f (D.take d) ++ (blkO n f k ++ ordO n f (D.drop (d + 1))) := by
  have h2 : ordO n f D = ordO n f (D.take (d + 1)) ++ ordO n f (D.drop (d + 1)) := by
    unfold ordO
    rw [← List.flatMap_append, List.take_append_drop]
  rw [h2, ordO_succ hd, List.append_assoc]
theorem ordO_at {d k j : Nat} (hd : D[d]? = some k) (hj : j < (blkO n f k).length) : (ordO n f D)[offO n f D d + j]? = (blkO n f k)[j]? := by
  rw [ordO_split hd]
  unfold offO
  rw [List.getElem?_append_right (by omega), Nat.add_sub_cancel_left, List.getElem?_append_left hj]
theorem BlkO.more (h : BlkO s n f D) {d : Nat} (hd : offO n f D d < n) : ∃ k, D[d]? = some k := by
  by_cases hl : d < D.length
  · exact ⟨D[d], List.getElem?_eq_getElem hl⟩
  · exfalso
    have := h.len
    unfold offO at hd
    rw [List.take_of_length_le (by omega)] at hd
    omega
theorem BlkO.off_le (h : BlkO s n f D) {d k : Nat} (hd : D[d]? = some k) : offO n f D d + (blkO n f k).length ≤ n := by
  have h1 := h.len
  rw [ordO_split hd, List.length_append, List.length_append] at h1
  unfold offO
  omega
theorem BlkO.next (h : BlkO s n f D) {d k y : Nat} (hd : D[d]? = some k) (hy : (ordO n f D)[offO n f D d + (blkO n f k).length]? = some y) : y < n ∧ asF n f y ≠ k := by
  rw [ordO_split hd] at hy
  unfold offO at hy
  rw [List.getElem?_append_right (by omega), Nat.add_sub_cancel_left, List.getElem?_append_right (by omega), Nat.sub_self] at hy
  have h1 := mem_ordO.1 (List.mem_of_getElem? hy)
  refine ⟨h1.1, fun e => ?_⟩
  rw [e] at h1
  have h2 := h.nodup
  rw [show D = D.take (d + 1) ++ D.drop (d + 1) from (List.take_append_drop _ _).symm, List.nodup_append] at h2
  exact h2.2.2 k (by rw [take_succ hd]; simp) k h1.2 rfl
theorem BlkO.ahead (h : BlkO s n f D) {d k p t : Nat} (hd : D[d]? = some k) (hp : p < n) (hpk : asF n f p = k) (hs : tau s p t) (hne : asF n f t ≠ k) : t ∈ ordO n f (D.take d) := by
  have hl := stp_lt h.right h.st hs
  refine mem_ordO.2 ⟨hl.2.1, ?_⟩
  have h1 : tau (col s (fl n (clf n f))) k (asF n f t) := (stp_col h.right h.st).2 ⟨p, t, hp, hl.2.1, hs, hpk, rfl, fun e => hne e.2.symm⟩
  exact h.ord.ahead (col_right h.right h.st) (col_srt _ _) d k _ hd h1
theorem blkO_len_le (k : Nat) : (blkO n f k).length ≤ n := by
  have := memK_len (fl n (clf n f)) n (k : Int)
  rw [memK_N, List.length_map] at this
  exact this
theorem asF_clf {x y : Nat} (hx : x < n) (hy : y < n) : clf n f x = clf n f y ↔ asF n f x = asF n f y := by
  rw [asF_eq hx, asF_eq hy]; omega
/-- One block alone: all of them come from one another. -/
theorem BlkO.same (h : BlkO s n f D) {x y : Nat} (hx : x < n) (hy : y < n) (e : asF n f x = asF n f y) : TR s x y ∧ TR s y x := (asF_same h.cyc hx hy).1 e
/-- Cycles and Order speak of one numbering. -/
theorem BlkO.of_ord {g : Nat → Int} (hr : s.Right) (hn : s.st = (n : Int)) (hf : Cyc s n f) (hg : Cyc s n g) (hD : OrdL (col s (fl n (clf n g))) (dist (fl n (clf n g))).length D) (hall : ∀ k, k < (dist (fl n (clf n g))).length → k ∈ D) :
    BlkO s n f D ∧ fl n (clf n g) = fl n (clf n f) := by
  have e : fl n (clf n g) = fl n (clf n f) := by rw [← canon_fl, ← canon_fl]; exact hg.unique hf
  rw [e, dist_clf_len] at hD hall
  exact ⟨⟨hr, hn, hf, hD, hall⟩, e⟩
end
theorem stp_normO {s : Lts} {p t : Nat} {l : Int} : stp s.norm p l t ↔ stp s p l t := by
  unfold stp Lts.norm
  simp only
  rw [mem_nf stoE]
end Go.Proofs.YtmlmjhmdjieigaaGreatDoor

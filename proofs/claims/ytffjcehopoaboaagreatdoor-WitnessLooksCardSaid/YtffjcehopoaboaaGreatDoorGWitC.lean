/-
  Lemmas.
-/
import Derived.Test.YtffjcehopoaboaaGreatDoorGWitA
import Derived.Test.YtffjcehopoaboaaGreatDoorGRows2
import Derived.Outline
import Derived.Laws.EntriesVeiled
import Derived.Deep.QuietTactic
import Derived.BigQuiet
namespace Go.Proofs.YtffjcehopoaboaaGreatDoor
open Go.RowKit Pl
theorem rowM : IsRow Tryz.prog 186 189 1 8 (.map none) := isRow_of Tryz.underlying186 (by kernel_rfl) rfl (by decide)
structure WK (w0 wr : World) (cv : Value) (dv : Value) (ms : List Value) (D : Nat → List S) : Prop where
  bel : Below w0.heap.size w0 wr
  res : wr.heap[w0.heap.size]? = some (.cells #[.int .i64 0, .int .i64 0, .int .i64 0, .int .i64 0] 67 (0, 0))
  blk : wr.heap[w0.heap.size + 1]? = some (.cells #[cv, dv] 188 (0, 0))
  own : wr.ownsRow (w0.heap.size + 2) 189 1 dv ms.length (ms.flatMap encV)
  maps : ∀ q x, ms[q]? = some x → ∃ mb k, x = .map (some mb) ∧ w0.heap.size + 2 ≤ mb ∧ OMap wr mb encSv okS encU (addU (fun _ => none) (D q)) k
theorem WK.call {w0 wr w' : World} {cv dv : Value} {ms : List Value} {D : Nat → List S} (h : WK w0 wr cv dv ms D) (hB : Below wr.heap.size wr w') : WK w0 w' cv dv ms D :=
  ⟨h.bel.trans (hB.mono h.bel.size), by rw [hB.block _ (Array.getElem?_eq_some_iff.1 h.res).1]; exact h.res, by rw [hB.block _ (Array.getElem?_eq_some_iff.1 h.blk).1]; exact h.blk, own_below h.own hB, fun q x hx => by
    obtain ⟨mb, k, h1, h2, h3⟩ := h.maps q x hx
    exact ⟨mb, k, h1, h2, h3.of_block (hB.block _ h3.lt)⟩⟩
theorem WK.blk6 {w0 wr wb w1 : World} {cv dv : Value} {ms : List Value} {D : Nat → List S} (h : WK w0 wr cv dv ms D) (hB : Below wr.heap.size wr wb) (hg : wb.grownBy w1 dv.ownBlock) :
    w1.cell? ⟨w0.heap.size + 1, 1, none⟩ = some dv ∧ w1.frozen? ⟨w0.heap.size + 1, 1, none⟩ = false ∧ w0.heap.size + 1 < w1.heap.size := by
  have hb := h.call hB
  have h1 : w1.heap[w0.heap.size + 1]? = some (.cells #[cv, dv] 188 (0, 0)) := by
    rw [hg.block _ (Array.getElem?_eq_some_iff.1 hb.blk).1 (fun e => by have := (hb.own.lt _ e.symm).1; omega)]; exact hb.blk
  exact ⟨by simp [World.cell?, h1], by simp [World.frozen?, h1], (Array.getElem?_eq_some_iff.1 h1).1⟩
theorem WK.push {w0 wr wb w1 : World} {cv dv : Value} {ms : List Value} {D : Nat → List S} (h : WK w0 wr cv dv ms D) {mb : Nat} {k : Nat} (hmb : w0.heap.size + 2 ≤ mb) (hm : OMap wr mb encSv okS encU (addU (fun _ => none) (D ms.length)) k)
    (hB : Below wr.heap.size wr wb) {g cap : Nat} (hown : w1.ownsRow (w0.heap.size + 2) 189 1 (.slice (some ⟨g, 0, none⟩) (ms.length + 1) cap) (ms.length + 1) (ms.flatMap encV ++ [.map (some mb)])) (hg : wb.grownBy w1 dv.ownBlock) :
    WK w0 (w1.setCell ⟨w0.heap.size + 1, 1, none⟩ (.slice (some ⟨g, 0, none⟩) (ms.length + 1) cap)) cv (.slice (some ⟨g, 0, none⟩) (ms.length + 1) cap) (ms ++ [.map (some mb)]) D := by
  have hb := h.call hB
  have hlt : ∀ k, dv.ownBlock = some k → w0.heap.size + 2 ≤ k := fun k e => (hb.own.lt k e).1
  have hblk : ∀ b, b < wb.heap.size → dv.ownBlock ≠ some b → w1.heap[b]? = wb.heap[b]? := fun b h1 h2 => hg.block b h1 (fun e => h2 e.symm)
  have hmap : ∀ {x f n}, OMap wb x encSv okS encU f n → OMap w1 x encSv okS encU f n := fun {x f n} hx => by
    refine hx.of_block (hblk x hx.lt (fun e => ?_))
    obtain ⟨es, cl, he⟩ := hx.block
    rcases hb.own.2 with ⟨h2, _⟩ | ⟨gg, cap, cur, hv, _, hgg, _⟩
    · rw [h2] at e; cases e
    · rw [hv] at e; simp only [Value.ownBlock, Option.some.injEq] at e; subst e; rw [hgg] at he; cases he
  have hgl : w0.heap.size + 2 ≤ g := (hown.lt g rfl).1
  have hset : ∀ b, b ≠ w0.heap.size + 1 → (w1.setCell ⟨w0.heap.size + 1, 1, none⟩ (.slice (some ⟨g, 0, none⟩) (ms.length + 1) cap)).heap[b]? = w1.heap[b]? := fun b hb => Below.heap_setCell _ _ _ _ hb
  refine ⟨(hb.bel.grown hg hb.bel.size (fun k e => by have := hlt k e; omega)).setCell (by show w0.heap.size ≤ w0.heap.size + 1; omega) _, ?_, ?_, ?_, fun q x hx => ?_⟩
  · rw [hset _ (by omega), hblk _ (Array.getElem?_eq_some_iff.1 hb.res).1 (fun e => by have := hlt _ e; omega)]; exact hb.res
  · have h1 : w1.heap[w0.heap.size + 1]? = some (.cells #[cv, dv] 188 (0, 0)) := by rw [hblk _ (Array.getElem?_eq_some_iff.1 hb.blk).1 (fun e => by have := hlt _ e; omega)]; exact hb.blk
    exact heap_setCell_same w1 (w0.heap.size + 1) 1 #[cv, dv] 188 _ h1
  · have e1 : (ms ++ [Value.map (some mb)]).flatMap encV = ms.flatMap encV ++ [.map (some mb)] := by rw [List.flatMap_append]; rfl
    rw [e1, List.length_append]
    exact ownsRow_setCell_below hown (show w0.heap.size + 1 < w0.heap.size + 2 by omega) _
  · rcases Nat.lt_or_ge q ms.length with hq | hq
    · rw [List.getElem?_append_left hq] at hx
      obtain ⟨mb', k', h1, h2, h3⟩ := hb.maps q x hx
      exact ⟨mb', k', h1, h2, (hmap h3).of_block (hset mb' (by omega))⟩
    · have hq2 : q = ms.length := by have := (List.getElem?_eq_some_iff.1 hx).1; simp at this; omega
      subst hq2
      simp at hx
      exact ⟨mb, k, hx.symm, hmb, (hmap (hm.of_block (hB.block _ hm.lt))).of_block (hset mb (by omega))⟩
end Go.Proofs.YtffjcehopoaboaaGreatDoor
namespace Go.Proofs.YtffjcehopoaboaaGreatDoor
open Go.RowKit Pl
open Lib (hid)
def WalkE (s : Lts) (n : Nat) (C : List Int) (D : Nat → List S) (e : Ending) : Prop :=
  (∃ (p q : Nat) (x : S), p < n ∧ q < n ∧ atL C (p : Int) = atL C (q : Int) ∧ failD s C D p q = some x ∧ (∀ p' q', p' < n → q' < n → (p' < p ∨ (p' = p ∧ q' < q)) → atL C (p' : Int) = atL C (q' : Int) → failD s C D p' q' = none) ∧
    e = .returned (.tuple #[.agg #[.int .i64 p, .int .i64 q, .int .i64 x.1, .int .i64 x.2], .bool false, .nilIface])) ∨
  ((∀ p q, p < n → q < n → atL C (p : Int) = atL C (q : Int) → failD s C D p q = none) ∧ e = .returned (.tuple #[.agg #[.int .i64 0, .int .i64 0, .int .i64 0, .int .i64 0], .bool true, .nilIface]))
set_option maxRecDepth 100000 in
set_option maxHeartbeats 4000000 in
theorem walk_any {w0 : World} {gb : Nat} {s : Lts} (h : GraphAt w0 gb s) {n : Nat} {C : List Int} (hC : Cls s n C) {ca : Option Addr} {cb co cc : Nat} (hS : SlAt encI 1 w0 ca cb co C) {F : Nat} (eg : ∀ args w, (callFunc F args).run Tryz.prog w = .ok (.enter F args) w) {D : Nat → List S}
    (hK : ∀ (w : World) (q : Nat), q < n → ∀ (pb mb : Nat) (f : S → Option Unit), Noting w0 w w pb mb f → Calls Tryz.prog F #[.pointer (some ⟨gb, 0, none⟩), .slice ca n cc, .int .i64 q, .func (.func 146) #[] #[.pointer (some ⟨pb, 0, none⟩)]] w fun e w' => e = .returned (.tuple #[]) ∧ Noting w0 w w' pb mb (addU f (D q))) :
    Calls Tryz.prog 100 #[.pointer (some ⟨gb, 0, none⟩), .slice ca n cc, .func (.func F) #[] #[]] w0 fun e w' => WalkE s n C D e ∧ Below w0.heap.size w0 w' := by
  have hn : n ≤ 1000 := by have := h.right.st0; have := hC.st; omega
  have hmm := @run_makeMap Tryz.prog
  have HH := hid h; have HS := hid hS; have HC := hid hC; have HK := hid hK
  have hw0 : WK w0 ((w0.alloc (.cells #[.int .i64 0, .int .i64 0, .int .i64 0, .int .i64 0] 67)).alloc (.cells #[.slice ca n cc, .slice none 0 0] 188)) (.slice ca n cc) (.slice none 0 0) [] D :=
    ⟨((Below.refl _ _).alloc (Nat.le_refl _) _).alloc (by simp) _, by rw [Below.heap_alloc _ _ _ (by simp)]; exact heap_alloc_new w0 _, heap_alloc_at _ _ _ (by simp), ⟨by simp, .inl ⟨rfl, rfl⟩⟩, by simp⟩
  have HW0 := hid hw0
  clear h hS hC hK hw0
  go_enter Tryz.func100, Tryz.ntmps100
  go_wp2_with fail
  go_loopw [10, 11, 20] (fun _ _ v20 wr => ∃ (k : Nat) (dv : Value) (ms : List Value), v20 = .int .i64 k ∧ k ≤ n ∧ ms.length = k ∧ WK w0 wr (.slice ca n cc) dv ms D) (fun _ _ v20 _ => n - (intOf v20).toNat)
  case atStart => exact ⟨0, _, [], rfl, Nat.zero_le _, rfl, HW0.out⟩
  case round =>
    obtain ⟨k, dv, ms, rfl, hk, hml, hwk⟩ := hrel
    have HWK := hid hwk; have HML := hid hml
    have hsz := hwk.bel.size
    have hbl := (Array.getElem?_eq_some_iff.1 hwk.blk).1
    clear hwk hml HW0
    by_cases hlt : k < n
    · have hkI : (k : Int) < (n : Int) := by omega
      have hnw : Noting w0 ((wr.alloc (.map #[] 0)).alloc (.cells #[.map (some wr.heap.size)] 189)) ((wr.alloc (.map #[] 0)).alloc (.cells #[.map (some wr.heap.size)] 189)) (wr.heap.size + 1) wr.heap.size (fun _ => none) :=
        ⟨(HWK.out.bel.alloc hsz _).alloc (by simp; omega) _, ⟨rfl, rfl, rfl, Nat.le_refl _, fun _ _ _ => rfl⟩, by simp [go_sem], ⟨0, (OMap.made wr).of_block (Below.heap_alloc _ _ _ (by simp))⟩, hsz, by omega⟩
      have HNW := hid hnw
      clear hnw
      go_wp2_with fail
      refine (HK.out _ k hlt _ _ _ HNW.out).mono ?_
      rintro e w5 ⟨rfl, hN⟩
      have hB5 : Below wr.heap.size wr w5 := (((Below.refl wr.heap.size wr).alloc (Nat.le_refl _) (.map #[] 0)).alloc (by simp) (.cells #[.map (some wr.heap.size)] 189)).grown hN.grown (by simp; omega) (fun k e => by cases e; exact Nat.le_refl _)
      have hW5 := HWK.out.call hB5
      obtain ⟨nm, hM5⟩ := hN.map
      have c0 : w5.cell? ⟨w0.heap.size + 1, 1, none⟩ = some dv := by simp [World.cell?, hW5.blk]
      have c1 := hN.cell
      have l0 := (Array.getElem?_eq_some_iff.1 hW5.blk).1
      have l1 := hN.plt
      have hs5 : w0.heap.size + 2 ≤ w5.heap.size := by have := hM5.lt; omega
      have HW5 := hid hW5; have HM5 := hid hM5
      clear hN hB5 hW5 hM5 HNW HWK
      go_wp2_with (at_builtin; refine wpList_lies rfl _ _ 186 rfl rowM (base := w0.heap.size + 2) (by simp; omega) rfl (own_below HW5.out.own ((Below.refl w5.heap.size w5).alloc (Nat.le_refl _) _)) ⟨w5.heap.size, 0, none⟩ 1 1 [.map (some wr.heap.size)] rfl rfl (cells1 (by simp [go_sem])) (by simp [Value.oneCell']) (by omega) (by rw [HML.out]; omega) (by unfold maxLen; rw [HML.out]; omega) _ rfl ?_; intro g cap w6 hown6 hg6 _ _; obtain ⟨c6, z6, l6⟩ := HW5.out.blk6 ((Below.refl w5.heap.size w5).alloc (Nat.le_refl _) _) hg6)
      have hnext := HW5.out.push (mb := wr.heap.size) (by omega) (by rw [HML.out]; exact HM5.out.congr (fun z => by rfl)) ((Below.refl w5.heap.size w5).alloc (Nat.le_refl _) _) hown6 hg6
      have HNX := hid hnext
      clear hnext hown6 hg6 c6 z6 l6 HW5 HM5 c0 c1 l0 l1
      go_roundw
      case rel => exact ⟨k + 1, _, ms ++ [.map (some wr.heap.size)], by go_num, by omega, by simp [HML.out], HNX.out⟩
      case measure => simp [intOf]; omega
    · obtain rfl : k = n := by omega
      obtain ⟨wk, hwk⟩ : ∃ wk, wk = wr := ⟨_, rfl⟩
      subst hwk
      obtain ⟨da, dc, db, rfl, _, _, hds, _⟩ := slAt_own lenV HWK.out.own
      have hrel : RelAt wk s k C ca cb co da db ms D := ⟨HS.out.below HWK.out.bel (Nat.le_refl _), hds, HML.out, fun q hq => by
        obtain ⟨x, hx⟩ := getElem?_of_lt (xs := ms) (i := q) (by have := HML.out; omega)
        obtain ⟨mb, kk, h1, _, h3⟩ := HWK.out.maps q x hx
        exact ⟨mb, kk, by rw [hx, h1], h3⟩⟩
      have HREL := hid hrel
      have hblk := HWK.out.blk
      have hres := HWK.out.res
      rw [HML.out] at hblk
      have HBLK := hid hblk; have HRES := hid hres; have HBEL := hid HWK.out.bel
      clear hds hrel hblk hres HWK HML hmm HK
      go_wp2_with fail
      go_loopw [12, 13, 14, 15, 39] (fun _ _ _ _ v39 wx => ∃ p : Nat, v39 = .int .i64 p ∧ p ≤ k ∧ (∀ p' q', p' < p → q' < k → atL C (p' : Int) = atL C (q' : Int) → failD s C D p' q' = none) ∧ Below wk.heap.size wk wx) (fun _ _ _ _ v39 _ => k - (intOf v39).toNat)
      case atStart => exact ⟨0, rfl, Nat.zero_le _, fun p' q' h => by omega, Below.refl _ _⟩
      case round =>
        obtain ⟨p, rfl, hp, hall, hbx⟩ := hrel
        have HALL := hid hall; have HBX := hid hbx
        clear hall hbx
        by_cases hpk : p < k
        · have hpI : (p : Int) < (k : Int) := by omega
          go_wp2_with fail
          go_loopw [13, 14, 15, 44] (fun _ _ _ v44 wx => ∃ q : Nat, v44 = .int .i64 q ∧ q ≤ k ∧ (∀ q', q' < q → atL C (p : Int) = atL C (q' : Int) → failD s C D p q' = none) ∧ Below wk.heap.size wk wx) (fun _ _ _ v44 _ => k - (intOf v44).toNat)
          case atStart => exact ⟨0, rfl, Nat.zero_le _, fun q' h => by omega, HBX.out⟩
          case round =>
            obtain ⟨q, rfl, hq, hall, hbx⟩ := hrel
            have HALL2 := hid hall; have HBY := hid hbx
            have hsy := hbx.size
            clear hall hbx
            by_cases hqk : q < k
            · have hqI : (q : Int) < (k : Int) := by omega
              have hcs := HS.out.below (HBEL.out.trans (HBY.out.mono HBEL.out.size)) (Nat.le_refl _)
              have hcl := HC.out.len
              obtain rfl := hcs.ad (by omega)
              obtain ⟨x, hx⟩ := getElem?_of_lt (xs := C) (i := p) (by omega)
              obtain ⟨y, hy⟩ := getElem?_of_lt (xs := C) (i := q) (by omega)
              have g1 := hcs.ci hx; have g2 := hcs.ci hy
              have gl := hcs.lt (by omega)
              have hax : atL C (p : Int) = x := by unfold atL; rw [List.getD_eq_getElem?_getD]; simp [hx]
              have hay : atL C (q : Int) = y := by unfold atL; rw [List.getD_eq_getElem?_getD]; simp [hy]
              have HAX := hid hax; have HAY := hid hay
              clear hcs hcl hx hy hax hay
              by_cases hxy : x = y
              · have hb : (x != y) = false := by simp [hxy]
                have HXY := hid hxy
                clear hxy
                have hRB : Below wk.heap.size wk wr := HBY.out
                have hbk := (HBY.out.block (w0.heap.size + 1) (Array.getElem?_eq_some_iff.1 HBLK.out).1).trans HBLK.out
                have r0 : wr.cell? ⟨w0.heap.size + 1, 0, none⟩ = some (.slice (some ⟨cb, co, none⟩) k cc) := by simp [World.cell?, hbk]
                have r1 : wr.cell? ⟨w0.heap.size + 1, 1, none⟩ = some (.slice da k dc) := by simp [World.cell?, hbk]
                have rl := (Array.getElem?_eq_some_iff.1 hbk).1
                clear hbk hRB
                go_wp2_with fail
                go_quiet (fail)
                go_wp2_with fail
                have hbq : Below wk.heap.size wk (wr.drewN nq) := ⟨HBY.out.os, HBY.out.tape, HBY.out.output, HBY.out.size, HBY.out.block⟩
                refine (fails_any (cc := cc) (dc := dc) HH.out (HBEL.out.trans (hbq.mono HBEL.out.size)) (HREL.out.below hbq) HC.out (p := p) hqk).mono ?_
                rintro e w8 ⟨hFE, hB8⟩
                have HB8 := hid (hbq.trans (hB8.mono hbq.size))
                have hs8 := hB8.size
                clear hbq hB8 r0 r1 rl g1 g2 gl hb
                rcases hfo : failD s C D p q with _ | z
                · rw [hfo] at hFE
                  have hFE : e = .returned (.tuple #[.agg #[.int .i64 0, .int .i64 0, .int .i64 0, .int .i64 0], .bool false]) := hFE
                  subst hFE
                  have hnx : ∀ q', q' < q + 1 → atL C (p : Int) = atL C (q' : Int) → failD s C D p q' = none := fun q' h1 h2 => by
                    by_cases e : q' = q
                    · subst e; exact hfo
                    · exact HALL2.out q' (by omega) h2
                  have HNX := hid hnx
                  clear hnx hfo
                  have hb9 := HB8.out.alloc HB8.out.size (.cells #[.int .i64 0, .int .i64 0, .int .i64 0, .int .i64 0] 67)
                  have HB9 := hid hb9
                  clear hb9
                  go_wp2_with fail
                  go_roundw
                  case rel => exact ⟨q + 1, by go_num, by omega, HNX.out, HB9.out⟩
                  case measure => simp [intOf]; omega
                · rw [hfo] at hFE
                  have hFE : e = .returned (.tuple #[.agg #[.int .i64 p, .int .i64 q, .int .i64 z.1, .int .i64 z.2], .bool true]) := hFE
                  subst hFE
                  have hfin : WalkE s k C D (.returned (.tuple #[.agg #[.int .i64 p, .int .i64 q, .int .i64 z.1, .int .i64 z.2], .bool false, .nilIface])) := .inl ⟨p, q, z, hpk, hqk, by rw [HAX.out, HAY.out, HXY.out], hfo, fun p' q' h1 h2 h3 h4 => by
                    rcases h3 with h3 | ⟨h3, h5⟩
                    · exact HALL.out p' q' h3 h2 h4
                    · subst h3; exact HALL2.out q' h5 h4, rfl⟩
                  have HFIN := hid hfin
                  have hff := (HB8.out.block w0.heap.size (Array.getElem?_eq_some_iff.1 HRES.out).1).trans HRES.out
                  have f0 : w8.cell? ⟨w0.heap.size, 0, none⟩ = some (.int .i64 0) := by simp [World.cell?, hff]
                  have f1 : w8.cell? ⟨w0.heap.size, 1, none⟩ = some (.int .i64 0) := by simp [World.cell?, hff]
                  have f2 : w8.cell? ⟨w0.heap.size, 2, none⟩ = some (.int .i64 0) := by simp [World.cell?, hff]
                  have f3 : w8.cell? ⟨w0.heap.size, 3, none⟩ = some (.int .i64 0) := by simp [World.cell?, hff]
                  have z0 : w8.frozen? ⟨w0.heap.size, 0, none⟩ = false := by simp [World.frozen?, hff]
                  have z1 : w8.frozen? ⟨w0.heap.size, 1, none⟩ = false := by simp [World.frozen?, hff]
                  have z2 : w8.frozen? ⟨w0.heap.size, 2, none⟩ = false := by simp [World.frozen?, hff]
                  have z3 : w8.frozen? ⟨w0.heap.size, 3, none⟩ = false := by simp [World.frozen?, hff]
                  have hfl := (Array.getElem?_eq_some_iff.1 hff).1
                  have hne : w0.heap.size ≠ w8.heap.size := by omega
                  have hbe : Below w0.heap.size w0 w8 := HBEL.out.trans (HB8.out.mono HBEL.out.size)
                  have HBE := hid hbe
                  clear hfin hff hfo hbe
                  go_wp2_with fail
                  refine bodyPost_ret (v := .tuple #[.agg #[.int .i64 p, .int .i64 q, .int .i64 z.1, .int .i64 z.2], .bool false, .nilIface]) (by simp [results, Tryz.results100, go_sem, hfl, f0, f1, f2, f3]) rfl ⟨HFIN.out, ?_⟩
                  exact (bSet4W HBE.out).alloc (bSet4W HBE.out).size _
              · have hb : (x != y) = true := by simp [hxy]
                have hnx : ∀ q', q' < q + 1 → atL C (p : Int) = atL C (q' : Int) → failD s C D p q' = none := fun q' h1 h2 => by
                  by_cases e : q' = q
                  · subst e; rw [HAX.out, HAY.out] at h2; exact absurd h2 hxy
                  · exact HALL2.out q' (by omega) h2
                have HNX := hid hnx
                have HBZ := hid (fun u => (⟨HBY.out.os, HBY.out.tape, HBY.out.output, HBY.out.size, HBY.out.block⟩ : Below wk.heap.size wk (wr.drewN u)))
                clear hnx hxy
                go_wp2_with fail
                go_quiet (fail)
                go_wp2_with fail
                go_roundw
                case rel => exact ⟨q + 1, by go_num, by omega, HNX.out, HBZ.out _⟩
                case measure => simp [intOf]; omega
            · obtain rfl : q = k := by omega
              have hnx : ∀ p' q', p' < p + 1 → q' < q → atL C (p' : Int) = atL C (q' : Int) → failD s C D p' q' = none := fun p' q' h1 h2 h3 => by
                by_cases e : p' = p
                · subst e; exact HALL2.out q' h2 h3
                · exact HALL.out p' q' (by omega) h2 h3
              have HNX := hid hnx
              clear hnx
              go_wp2_with fail
              go_roundw
              case rel => exact ⟨p + 1, by go_num, by omega, HNX.out, HBY.out⟩
              case measure => simp [intOf]; omega
        · obtain rfl : p = k := by omega
          have hfin : WalkE s p C D (.returned (.tuple #[.agg #[.int .i64 0, .int .i64 0, .int .i64 0, .int .i64 0], .bool true, .nilIface])) := .inr ⟨fun p' q' h1 h2 h3 => HALL.out p' q' h1 h2 h3, rfl⟩
          have HFIN := hid hfin
          have hff := (HBX.out.block w0.heap.size (Array.getElem?_eq_some_iff.1 HRES.out).1).trans HRES.out
          have f0 : wr.cell? ⟨w0.heap.size, 0, none⟩ = some (.int .i64 0) := by simp [World.cell?, hff]
          have f1 : wr.cell? ⟨w0.heap.size, 1, none⟩ = some (.int .i64 0) := by simp [World.cell?, hff]
          have f2 : wr.cell? ⟨w0.heap.size, 2, none⟩ = some (.int .i64 0) := by simp [World.cell?, hff]
          have f3 : wr.cell? ⟨w0.heap.size, 3, none⟩ = some (.int .i64 0) := by simp [World.cell?, hff]
          have z0 : wr.frozen? ⟨w0.heap.size, 0, none⟩ = false := by simp [World.frozen?, hff]
          have z1 : wr.frozen? ⟨w0.heap.size, 1, none⟩ = false := by simp [World.frozen?, hff]
          have z2 : wr.frozen? ⟨w0.heap.size, 2, none⟩ = false := by simp [World.frozen?, hff]
          have z3 : wr.frozen? ⟨w0.heap.size, 3, none⟩ = false := by simp [World.frozen?, hff]
          have hfl := (Array.getElem?_eq_some_iff.1 hff).1
          clear hfin hff
          go_wp2_with fail
          refine bodyPost_ret (v := .tuple #[.agg #[.int .i64 0, .int .i64 0, .int .i64 0, .int .i64 0], .bool true, .nilIface]) (by simp [results, Tryz.results100, go_sem, f0, f1, f2, f3]) rfl ⟨HFIN.out, ?_⟩
          exact bSet4W (HBEL.out.trans (HBX.out.mono HBEL.out.size))
end Go.Proofs.YtffjcehopoaboaaGreatDoor

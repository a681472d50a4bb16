/-
  simul.newTable.
-/
import Derived.Test.YtfakdgljilmpkaaGreatDoorG22
import Derived.Test.YtfakdgljilmpkaaGreatDoorG16
import Derived.Test.YtfakdgljilmpkaaGreatDoorG10
import Derived.Deep.RegionHeld3
import Derived.Deep.RegionLaw
import Derived.Deep.DrawnRows
namespace Go.Proofs.YtfakdgljilmpkaaGreatDoor
open Go.RowKit Pl

theorem rowMp : IsRow Tryz.prog 223 226 1 8 (.map none) := isRow_of Tryz.underlying223 (by kernel_rfl) rfl (by decide)

theorem LabMap.mono {w : World} {base base' mb : Nat} {L : List S} (h : LabMap w base mb L) (hb : base' ≤ base) : LabMap w base' mb L := by
  obtain ⟨f, n, hm, h1, h2, h3⟩ := h.ex
  exact ⟨f, n, hm, fun l b e => by obtain ⟨a1, a2⟩ := h1 l b e; exact ⟨Nat.le_trans hb a1, a2⟩, h2, h3⟩

/-- The world within newTable, the maps of the first states made. -/
structure TK (w0 wr : World) (gb : Nat) (dv : Value) (ms : List Value) (s : Lts) : Prop where
  bel : Below w0.heap.size w0 wr
  blk : wr.heap[w0.heap.size]? = some (.cells #[.pointer (some ⟨gb, 0, none⟩), dv] 225 (0, 0))
  own : wr.ownsRow (w0.heap.size + 1) 226 1 dv ms.length (ms.flatMap encV)
  maps : ∀ (q : Nat) (x : Value), ms[q]? = some x → ∃ mb, x = .map (some mb) ∧ w0.heap.size + 1 ≤ mb ∧ LabMap wr (w0.heap.size + 1) mb (s.outs (q : Int))
section
variable {w0 wr wb w1 w' : World} {gb : Nat} {dv : Value} {ms : List Value} {s : Lts}
theorem TK.call (h : TK w0 wr gb dv ms s) (hB : Below wr.heap.size wr w') : TK w0 w' gb dv ms s :=
  ⟨h.bel.trans (hB.mono h.bel.size), by rw [hB.block _ (Array.getElem?_eq_some_iff.1 h.blk).1]; exact h.blk, own_below h.own hB, fun q x hx => by
    obtain ⟨mb, h1, h2, h3⟩ := h.maps q x hx
    exact ⟨mb, h1, h2, h3.call hB⟩⟩
theorem TK.blk6 (h : TK w0 wr gb dv ms s) (hB : Below wr.heap.size wr wb) (hg : wb.grownBy w1 dv.ownBlock) :
    w1.cell? ⟨w0.heap.size, 1, none⟩ = some dv ∧ w1.frozen? ⟨w0.heap.size, 1, none⟩ = false ∧ w0.heap.size < w1.heap.size := by
  have hb := h.call hB
  have h1 : w1.heap[w0.heap.size]? = some (.cells #[.pointer (some ⟨gb, 0, none⟩), dv] 225 (0, 0)) := by
    rw [hg.block _ (Array.getElem?_eq_some_iff.1 hb.blk).1 (fun e => by have := (hb.own.lt _ e.symm).1; omega)]; exact hb.blk
  exact ⟨by simp [World.cell?, h1], by simp [World.frozen?, h1], (Array.getElem?_eq_some_iff.1 h1).1⟩
theorem TK.push (h : TK w0 wr gb dv ms s) {mb : Nat} (hmb : w0.heap.size + 1 ≤ mb) (hm : LabMap wr (w0.heap.size + 1) mb (s.outs (ms.length : Int)))
    (hB : Below wr.heap.size wr wb) {g cap : Nat} (hown : w1.ownsRow (w0.heap.size + 1) 226 1 (.slice (some ⟨g, 0, none⟩) (ms.length + 1) cap) (ms.length + 1) (ms.flatMap encV ++ [.map (some mb)])) (hg : wb.grownBy w1 dv.ownBlock) :
    TK w0 (w1.setCell ⟨w0.heap.size, 1, none⟩ (.slice (some ⟨g, 0, none⟩) (ms.length + 1) cap)) gb (.slice (some ⟨g, 0, none⟩) (ms.length + 1) cap) (ms ++ [.map (some mb)]) s := by
  have hb := h.call hB
  have hlt : ∀ k, dv.ownBlock = some k → w0.heap.size + 1 ≤ k := fun k e => (hb.own.lt k e).1
  have hblk : ∀ b, b < wb.heap.size → dv.ownBlock ≠ some b → w1.heap[b]? = wb.heap[b]? := fun b h1 h2 => hg.block b h1 (fun e => h2 e.symm)
  have hty : ∀ b, dv.ownBlock = some b → ∃ cur, wb.heap[b]? = some (.cells cur 226 (0, 0)) := fun b e => by
    rcases hb.own.2 with ⟨h2, _⟩ | ⟨gg, cap, cur, hv, _, hgg, _⟩
    · rw [h2] at e; cases e
    · rw [hv] at e; simp only [Value.ownBlock, Option.some.injEq] at e; subst e; exact ⟨cur, hgg⟩
  have hset : ∀ b, b ≠ w0.heap.size → (w1.setCell ⟨w0.heap.size, 1, none⟩ (.slice (some ⟨g, 0, none⟩) (ms.length + 1) cap)).heap[b]? = w1.heap[b]? := fun b hb => Below.heap_setCell _ _ _ _ hb
  have hmap : ∀ {x L}, w0.heap.size + 1 ≤ x → LabMap wb (w0.heap.size + 1) x L → LabMap (w1.setCell ⟨w0.heap.size, 1, none⟩ (.slice (some ⟨g, 0, none⟩) (ms.length + 1) cap)) (w0.heap.size + 1) x L := fun {x L} hx0 hx => by
    refine hx.kept ((hset x (by omega)).trans (hblk x hx.lt (fun e => ?_))) (fun b hb1 hb2 hr => (hset b (by omega)).trans (hblk b hb2 (fun e => ?_)))
    · obtain ⟨f, n, hmm, _⟩ := hx.ex
      obtain ⟨es, cl, he⟩ := hmm.block
      obtain ⟨cur, hc⟩ := hty _ e
      rw [hc] at he; cases he
    · obtain ⟨c, hc⟩ := hr
      obtain ⟨cur, hc2⟩ := hty _ e
      rw [hc2] at hc
      injection hc with hc; injection hc with _ hc; exact absurd hc (by decide)
  have hgl : w0.heap.size + 1 ≤ g := (hown.lt g rfl).1
  refine ⟨(hb.bel.grown hg hb.bel.size (fun k e => by have := hlt k e; omega)).setCell (Nat.le_refl _) _, ?_, ?_, fun q x hx => ?_⟩
  · have h1 : w1.heap[w0.heap.size]? = some (.cells #[.pointer (some ⟨gb, 0, none⟩), dv] 225 (0, 0)) := by rw [hblk _ (Array.getElem?_eq_some_iff.1 hb.blk).1 (fun e => by have := hlt _ e; omega)]; exact hb.blk
    exact heap_setCell_same w1 w0.heap.size 1 #[.pointer (some ⟨gb, 0, none⟩), dv] 225 _ h1
  · have e1 : (ms ++ [Value.map (some mb)]).flatMap encV = ms.flatMap encV ++ [.map (some mb)] := by rw [List.flatMap_append]; rfl
    rw [e1, List.length_append]
    exact ownsRow_setCell_below hown (show w0.heap.size < w0.heap.size + 1 by omega) _
  · rcases Nat.lt_or_ge q ms.length with hq | hq
    · rw [List.getElem?_append_left hq] at hx
      obtain ⟨mb', h1, h2, h3⟩ := hb.maps q x hx
      exact ⟨mb', h1, h2, hmap h2 h3⟩
    · have hq2 : q = ms.length := by have := (List.getElem?_eq_some_iff.1 hx).1; simp at this; omega
      subst hq2
      simp at hx
      exact ⟨mb, hx.symm, hmb, hmap hmb (hm.call hB)⟩
end

/-- The table in memory. -/
structure TabOf (w : World) (gb tb : Nat) (s : Lts) (base : Nat) : Prop where
  ex : ∃ (ms : List Value) (da : Option Addr) (db dc : Nat), w.heap[tb]? = some (.cells #[.pointer (some ⟨gb, 0, none⟩), .slice da ms.length dc] 225 (0, 0)) ∧ SlAt encV 1 w da db 0 ms ∧ (ms.length : Int) = s.st ∧
    ∀ q, q < ms.length → ∃ mb, ms[q]? = some (.map (some mb)) ∧ LabMap w base mb (s.outs (q : Int))
theorem TabOf.below {w w' : World} {gb tb : Nat} {s : Lts} {base : Nat} (h : TabOf w gb tb s base) (hB : Below w.heap.size w w') : TabOf w' gb tb s base := by
  obtain ⟨ms, da, db, dc, h1, h2, h3, h4⟩ := h.ex
  exact ⟨ms, da, db, dc, by rw [hB.block _ (Array.getElem?_eq_some_iff.1 h1).1]; exact h1, h2.below hB (Nat.le_refl _), h3, fun q hq => by
    obtain ⟨mb, e1, e2⟩ := h4 q hq
    exact ⟨mb, e1, e2.call hB⟩⟩

set_option maxRecDepth 100000 in
set_option maxHeartbeats 4000000 in
theorem newTable_any {w0 : World} {gb : Nat} {s : Lts} (h : GraphAt w0 gb s) (hst : s.st ≤ 300) :
    Calls Tryz.prog 111 #[.pointer (some ⟨gb, 0, none⟩)] w0 fun e w' => e = .returned (.pointer (some ⟨w0.heap.size, 0, none⟩)) ∧ TabOf w' gb w0.heap.size s (w0.heap.size + 1) ∧ Below w0.heap.size w0 w' := by
  have hst0 := h.right.st0
  obtain ⟨n, hn⟩ := Int.eq_ofNat_of_zero_le (show 0 ≤ s.st by omega)
  have hn0 : n ≤ 300 := by omega
  have hmm := @run_makeMap Tryz.prog
  have HH := Lib.hid h
  have hb1 := (Below.refl w0.heap.size w0).alloc (Nat.le_refl _) (.cells #[.pointer (some ⟨gb, 0, none⟩), .slice none 0 0] 225)
  have HB1 := Lib.hid hb1
  have hbl1 := heap_alloc_new w0 (.cells #[.pointer (some ⟨gb, 0, none⟩), .slice none 0 0] 225)
  have HBL1 := Lib.hid hbl1
  clear h hb1 hbl1
  go_enter Tryz.func111, Tryz.ntmps111
  go_wp2_with fail
  refine (getStates_any (HH.out.below HB1.out)).mono ?_
  rintro e w2 ⟨rfl, hB2⟩
  rw [hn]
  have hw2 : TK w0 w2 gb (.slice none 0 0) [] s := ⟨HB1.out.trans (hB2.mono (by simp)), (hB2.block _ (by simp)).trans HBL1.out, ⟨by simp, .inl ⟨rfl, rfl⟩⟩, by simp⟩
  have HW2 := Lib.hid hw2
  clear hB2 hw2 HB1 HBL1
  go_wp2_with fail
  go_loopw [4, 5, 7, 13] (fun _ _ _ v13 wr => ∃ (k : Nat) (dv : Value) (ms : List Value), v13 = .int .i64 k ∧ k ≤ n ∧ ms.length = k ∧ TK w0 wr gb dv ms s) (fun _ _ _ v13 _ => n - (intOf v13).toNat)
  case atStart => exact ⟨0, _, [], rfl, Nat.zero_le _, rfl, HW2.out⟩
  case round =>
    obtain ⟨k, dv, ms, rfl, hk, hml, hwk⟩ := hrel
    obtain ⟨wk, hwr⟩ : ∃ wk, wk = wr := ⟨_, rfl⟩
    subst hwr
    have HWK := Lib.hid hwk; have HML := Lib.hid hml
    have hsz := hwk.bel.size
    have hbl := (Array.getElem?_eq_some_iff.1 hwk.blk).1
    clear hwk hml HW2
    by_cases hlt : k < n
    · have hkI : (k : Int) < (n : Int) := by omega
      have hLM := LabMap.made wk (wk.heap.size + 1)
      have hBM := (Below.refl wk.heap.size wk).alloc (Nat.le_refl _) (.map #[] 0)
      have HLM := Lib.hid hLM; have HBM := Lib.hid hBM
      clear hLM hBM
      go_wp2_with fail
      refine (each_any HH.out (HWK.out.bel.trans (HBM.out.mono hsz)) (k : Int)).mono ?_
      rintro e w3 ⟨⟨a2, c2, b2, off2, rfl, hc2, hm2, hss⟩, hB3⟩
      have HSS := Lib.hid hss
      have hsl : (s.outs (k : Int)).length ≤ 10000 := outs_len HH.out.right _
      have HL3 := Lib.hid (HLM.out.call hB3); have HB3 := Lib.hid (HBM.out.trans (hB3.mono (by simp)))
      clear hss hB3 hc2 hm2 HLM HBM
      go_wp2_with fail
      go_loopw [7, 21] (fun _ v21 wr => ∃ j : Nat, v21 = .int .i64 j ∧ j ≤ (s.outs (k : Int)).length ∧ LabMap wr (wk.heap.size + 1) wk.heap.size ((s.outs (k : Int)).take j) ∧ Below wk.heap.size wk wr) (fun _ v21 _ => (s.outs (k : Int)).length - (intOf v21).toNat)
      case atStart => exact ⟨0, rfl, Nat.zero_le _, HL3.out, HB3.out⟩
      case round =>
        obtain ⟨j, rfl, hj, hlx, hbx⟩ := hrel
        have HLX := Lib.hid hlx; have HBX := Lib.hid hbx
        clear HL3 HB3
        by_cases hjl : j < (s.outs (k : Int)).length
        · obtain ⟨y, hy⟩ := getElem?_of_lt hjl
          have hss := HSS.out.below (HWK.out.bel.trans (HBX.out.mono hsz)) (Nat.le_refl _)
          obtain rfl := hss.ad (by omega)
          have d0 := hss.s0 hy; have d1 := hss.s1 hy
          have dl := hss.lt (by omega)
          have hyr := offB_false.1 (HH.out.right.edges _ (mem_outs.1 (List.mem_of_getElem? hy)))
          have hlb := HH.out.right.st0
          obtain ⟨y1, y2⟩ := y
          simp only at hyr d0 d1
          obtain ⟨t, rfl⟩ := Int.eq_ofNat_of_zero_le hyr.2.2.2.2.1
          have ht : t < 320 := by omega
          have hok : okI y1 := WalkArith.wf_i64 (by omega)
          have hjI : (j : Int) < ((s.outs (k : Int)).length : Int) := by omega
          obtain ⟨f, nm, hm, h1, h2, h3⟩ := hlx.ex
          have hwsz := hbx.size
          have hmlt := hm.lt
          have hmW : OMap (wr.alloc (.cells #[.int .i64 y1, .int .i64 t] 101)) wk.heap.size encK okI encP f nm := hm.of_block (Below.heap_alloc _ _ _ hm.lt)
          have hbW := hbx.alloc hwsz (.cells #[.int .i64 y1, .int .i64 t] 101)
          have hsW := heap_alloc_new wr (.cells #[.int .i64 y1, .int .i64 t] 101)
          have h1W : ∀ l b, f l = some b → wk.heap.size + 1 ≤ b ∧ b ≠ wk.heap.size ∧ RowAt (wr.alloc (.cells #[.int .i64 y1, .int .i64 t] 101)) b 0 (rowL ((s.outs (k : Int)).take j) l) ∧ RowBlk (wr.alloc (.cells #[.int .i64 y1, .int .i64 t] 101)) b := fun l b e => by
            obtain ⟨a1, a2, a3, a4⟩ := h1 l b e
            exact ⟨a1, a2, a3.of_block (Below.heap_alloc _ _ _ a3.lt), a4.of_block (Below.heap_alloc _ _ _ a3.lt)⟩
          have HLW := Lib.hid (hlx.kept (w' := wr.alloc (.cells #[.int .i64 y1, .int .i64 t] 101)) (Below.heap_alloc _ _ _ hmlt) (fun b _ hb _ => Below.heap_alloc _ _ _ hb))
          have HMW := Lib.hid hmW; have HBW := Lib.hid hbW; have HSW := Lib.hid hsW; have HOK := Lib.hid hok
          have H1 := Lib.hid h1W; have H2 := Lib.hid h2; have H3 := Lib.hid h3
          have htk : (s.outs (k : Int)).take j ++ [(y1, (t : Int))] = (s.outs (k : Int)).take (j + 1) := (take_snoc hy).symm
          have HTK := Lib.hid htk
          clear hss hyr hlb hy hlx hbx hm h1 h2 h3 hmW hbW hsW h1W hok htk HLX HBX
          rcases hfl : f y1 with _ | b
          · have HNO := Lib.hid (H2.out y1 hfl)
            go_wp2_with (first
              | (at_mapUpdate; refine wpList_oput rfl _ _ _ 226 rfl encInt Tryz.underlying226 rfl (HMW.out.of_block (Below.heap_alloc _ _ _ HMW.out.lt)) y1 HOK.out rfl (wr.heap.size + 1) rfl ?_; intro w3 hm3 hg3 hf3 hs3; obtain ⟨r3, b3, g1, g2, g3⟩ := LabMap.fresh (H := wr.heap.size + 1) (by simp) HLW.out HNO.out (by omega) HMW.out hfl H1.out H2.out H3.out hm3 hg3; have hc3 := (hg3.block wr.heap.size (by simp; omega) (by simp; omega)).trans ((Below.heap_alloc _ _ _ (by simp)).trans HSW.out); have c30 : w3.cell? ⟨wr.heap.size, 0, none⟩ = some (.int .i64 y1) := (by simp [World.cell?, hc3]); have c31 : w3.cell? ⟨wr.heap.size, 1, none⟩ = some (.int .i64 t) := (by simp [World.cell?, hc3]); have l3 := (Array.getElem?_eq_some_iff.1 hc3).1; have HB3 := Lib.hid ((HBW.out.alloc HBW.out.size _).grown hg3 (by simp; omega) (fun k e => by cases e; exact Nat.le_refl _)); have HM3 := Lib.hid hm3; have HG1 := Lib.hid g1; have HG2 := Lib.hid g2; have HG3 := Lib.hid g3; clear hm3 hg3 hc3 g1 g2 g3 hf3 hs3)
              | (at_lookup; refine wpList_olook rfl _ _ 226 rfl encInt Tryz.underlying226 (zeroPtr _) rfl HMW.out y1 HOK.out rfl ?_; rw [hfl])
              | (at_lookup; refine wpList_olook rfl _ _ 226 rfl encInt Tryz.underlying226 (zeroPtr _) rfl HM3.out y1 HOK.out rfl ?_; rw [if_pos rfl]; simp only [Option.map_some, Option.getD_some, encP]))
            refine (put_any r3 (fun j => b3.thawed _) ht).mono ?_
            rintro e w4 ⟨rfl, hw4⟩
            have hn4 := LabMap.noted (t := t) HM3.out (if_pos rfl) HG1.out HG2.out HG3.out
            have hB4 := (HB3.out.setCell (p := ⟨wr.heap.size + 1, 0 + t / 64, none⟩) (show wk.heap.size ≤ wr.heap.size + 1 by omega) (.int .u64 (wj (putF (rowL (List.take j (s.outs (k : Int))) y1) t) (t / 64) : Nat))).drew
            rw [← hw4, HTK.out] at hn4
            rw [← hw4] at hB4
            have HN4 := Lib.hid hn4; have HB4 := Lib.hid hB4
            clear hn4 hB4 hw4 r3 b3 c30 c31 l3 HM3 HG1 HG2 HG3 HB3
            go_wp2_with fail
            go_roundw
            case rel => exact ⟨j + 1, by go_num, by omega, HN4.out, HB4.out⟩
            case measure => simp [intOf]; omega
          · go_wp2_with (at_lookup; refine wpList_olook rfl _ _ 226 rfl encInt Tryz.underlying226 (zeroPtr _) rfl HMW.out y1 HOK.out rfl ?_; rw [hfl]; simp only [Option.map_some, Option.getD_some, encP])
            obtain ⟨a1, a2, a3, a4⟩ := H1.out y1 b hfl
            refine (put_any a3 (fun j => a4.thawed _) ht).mono ?_
            rintro e w4 ⟨rfl, hw4⟩
            have hn4 := LabMap.noted (t := t) HMW.out hfl H1.out H2.out H3.out
            have hB4 := (HBW.out.setCell (p := ⟨b, 0 + t / 64, none⟩) (show wk.heap.size ≤ b by omega) (.int .u64 (wj (putF (rowL (List.take j (s.outs (k : Int))) y1) t) (t / 64) : Nat))).drew
            rw [← hw4, HTK.out] at hn4
            rw [← hw4] at hB4
            have HN4 := Lib.hid hn4; have HB4 := Lib.hid hB4
            clear hn4 hB4 hw4 a3 a4
            go_wp2_with fail
            go_roundw
            case rel => exact ⟨j + 1, by go_num, by omega, HN4.out, HB4.out⟩
            case measure => simp [intOf]; omega
        · have hje : j = (s.outs (k : Int)).length := by omega
          have hlf : LabMap wr (w0.heap.size + 1) wk.heap.size (s.outs (k : Int)) := by
            have := HLX.out.mono (base' := w0.heap.size + 1) (by omega)
            rw [hje, List.take_length] at this; exact this
          have hW5 := HWK.out.call HBX.out
          have c0 : wr.cell? ⟨w0.heap.size, 1, none⟩ = some dv := by simp [World.cell?, hW5.blk]
          have l0 := (Array.getElem?_eq_some_iff.1 hW5.blk).1
          have HW5 := Lib.hid hW5; have HLF := Lib.hid hlf
          clear hlf hW5 HLX HBX hlx hbx HWK
          go_wp2_with (at_builtin; refine wpList_lies rfl _ _ 223 rfl rowMp (base := w0.heap.size + 1) (by simp; omega) rfl (own_below HW5.out.own ((Below.refl wr.heap.size wr).alloc (Nat.le_refl _) _)) ⟨wr.heap.size, 0, none⟩ 1 1 [.map (some wk.heap.size)] rfl rfl (cells1 (by simp [go_sem])) (by simp [Value.oneCell']) (by omega) (by rw [HML.out]; omega) (by unfold maxLen; rw [HML.out]; omega) _ rfl ?_; intro g cap w6 hown6 hg6 _ _; obtain ⟨c6, z6, l6⟩ := HW5.out.blk6 ((Below.refl wr.heap.size wr).alloc (Nat.le_refl _) _) hg6)
          have hnext := HW5.out.push (mb := wk.heap.size) (by omega) (by rw [HML.out]; exact HLF.out) ((Below.refl wr.heap.size wr).alloc (Nat.le_refl _) _) hown6 hg6
          have HNX := Lib.hid hnext
          clear hnext hown6 hg6 c6 z6 l6 HW5 c0 l0
          go_roundw
          case rel => exact ⟨k + 1, _, ms ++ [.map (some wk.heap.size)], by go_num, by omega, by simp [HML.out], HNX.out⟩
          case measure => simp [intOf]; omega
    · obtain rfl : k = n := by omega
      have hown := HWK.out.own
      obtain ⟨a, c, b, rfl, _, _, hsl, _⟩ := slAt_own lenV hown
      have hmln := HML.out
      have hfin : TabOf wk gb w0.heap.size s (w0.heap.size + 1) := ⟨ms, a, b, c, HWK.out.blk, hsl, by omega, fun q hq => by
        obtain ⟨x, hx⟩ := getElem?_of_lt hq
        obtain ⟨mb, h1, _, h3⟩ := HWK.out.maps q x hx
        exact ⟨mb, by rw [hx, h1], h3⟩⟩
      have HF := Lib.hid hfin
      have HBf := Lib.hid HWK.out.bel
      clear hown hsl hfin
      go_wp2_with fail
      go_ret
      exact ⟨rfl, HF.out, HBf.out⟩
end Go.Proofs.YtfakdgljilmpkaaGreatDoor

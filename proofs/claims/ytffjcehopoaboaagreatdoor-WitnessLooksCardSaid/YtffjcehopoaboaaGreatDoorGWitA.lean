/-
  Lemmas.
-/
import Derived.Test.YtffjcehopoaboaaGreatDoorGKeyS
import Derived.Test.YtffjcehopoaboaaGreatDoorGWith
import Derived.Test.YtffjcehopoaboaaGreatDoorGPl4
import Derived.Deep.RegionHeld3
import Derived.Deep.QuietTactic
import Derived.BigQuiet
import Derived.Deep.RegionLaw
import Derived.Deep.DrawnRows
namespace Go.Proofs.YtffjcehopoaboaaGreatDoor
open Go.RowKit Pl
open Lib (hid)
set_option maxRecDepth 100000 in
theorem note_any {w : World} {pb mb n : Nat} {f : S → Option Unit} (hp : w.cell? ⟨pb, 0, none⟩ = some (.map (some mb))) (hM : OMap w mb encSv okS encU f n) (l c : Int) (hok : okS (l, c)) :
    Calls Tryz.prog 146 #[.int .i64 l, .int .i64 c, .pointer (some ⟨pb, 0, none⟩)] w fun e w' => e = .returned (.tuple #[]) ∧
      (∃ n', OMap w' mb encSv okS encU (fun z => if z = (l, c) then some () else f z) n') ∧ w.grownBy w' (some mb) := by
  have hpl := World.block_lt_of_cell? _ _ hp
  have HM := hid hM
  clear hM
  go_enter Tryz.func146, Tryz.ntmps146
  go_wp2_with (at_mapUpdate; refine wpList_oput rfl _ _ _ 189 rfl encStep Tryz.underlying189 rfl HM.out ((l, c) : S) hok rfl () rfl ?_; intro w1 hM1 hg1 hf1 hs1)
  go_end0
  exact ⟨rfl, ⟨_, hM1⟩, hg1⟩
def plainD (s : Lts) (C : List Int) (q : Int) : List S := (s.outs q).map (fun x => (x.1, atL C x.2))
def addU (f : S → Option Unit) (L : List S) (z : S) : Option Unit := if z ∈ L then some () else f z
theorem addU_nil (f : S → Option Unit) (z : S) : addU f [] z = f z := by simp [addU]
theorem addU_snoc (f : S → Option Unit) (L : List S) (x z : S) : (if z = x then some () else addU f L z) = addU f (L ++ [x]) z := by
  unfold addU
  by_cases h : z = x
  · simp [h]
  · simp [h]
theorem addU_app (f : S → Option Unit) (L M : List S) (z : S) : addU (addU f L) M z = addU f (L ++ M) z := by
  unfold addU
  by_cases h : z ∈ M <;> by_cases h2 : z ∈ L <;> simp [h, h2]
structure Noting (w0 w wr : World) (pb mb : Nat) (f : S → Option Unit) : Prop where
  bel : Below w0.heap.size w0 wr
  grown : w.grownBy wr (some mb)
  cell : wr.cell? ⟨pb, 0, none⟩ = some (.map (some mb))
  map : ∃ n, OMap wr mb encSv okS encU f n
  mlt : w0.heap.size ≤ mb
  pne : pb ≠ mb
theorem Noting.plt {w0 w wr : World} {pb mb : Nat} {f : S → Option Unit} (h : Noting w0 w wr pb mb f) : pb < wr.heap.size := World.block_lt_of_cell? _ _ h.cell
theorem Noting.call {w0 w wr w' : World} {pb mb : Nat} {f : S → Option Unit} (h : Noting w0 w wr pb mb f) (hB : Below wr.heap.size wr w') : Noting w0 w w' pb mb f := by
  obtain ⟨n, hm⟩ := h.map
  exact ⟨h.bel.trans (hB.mono h.bel.size), h.grown.trans ⟨hB.os, hB.tape, hB.output, hB.size, fun i hi _ => hB.block i hi⟩, by rw [hB.cell (p := ⟨pb, 0, none⟩) h.plt]; exact h.cell, ⟨n, hm.of_block (hB.block _ hm.lt)⟩, h.mlt, h.pne⟩
theorem Noting.note {w0 w wr w' : World} {pb mb : Nat} {f g : S → Option Unit} (h : Noting w0 w wr pb mb f) (hg : wr.grownBy w' (some mb)) (hm : ∃ n, OMap w' mb encSv okS encU g n) : Noting w0 w w' pb mb g :=
  ⟨h.bel.grown hg h.bel.size (fun k hk => by cases hk; exact h.mlt), h.grown.trans hg, by
    rw [World.cell?_of_block (w := wr) (a := ⟨pb, 0, none⟩) (hg.block pb h.plt (fun e => h.pne (Option.some.inj e)))]; exact h.cell, hm, h.mlt, h.pne⟩
theorem Noting.congr {w0 w wr : World} {pb mb : Nat} {f g : S → Option Unit} (h : Noting w0 w wr pb mb f) (e : ∀ z, f z = g z) : Noting w0 w wr pb mb g := by
  obtain ⟨n, hm⟩ := h.map
  exact ⟨h.bel, h.grown, h.cell, ⟨n, hm.congr e⟩, h.mlt, h.pne⟩
structure Cls (s : Lts) (n : Nat) (C : List Int) : Prop where
  len : C.length = n
  st : s.st = (n : Int)
  ok : ∀ x ∈ C, (Lit.int .i64 x).wf = true
set_option maxRecDepth 100000 in
set_option maxHeartbeats 2000000 in
theorem plain_any {w0 w : World} {gb : Nat} {s : Lts} (h : GraphAt w0 gb s) {n : Nat} {C : List Int} (hC : Cls s n C) {ca : Option Addr} {cb co cc : Nat} (hS : SlAt encI 1 w0 ca cb co C) {pb mb : Nat} {f : S → Option Unit} (hN : Noting w0 w w pb mb f) (q : Int) :
    Calls Tryz.prog 101 #[.pointer (some ⟨gb, 0, none⟩), .slice ca n cc, .int .i64 q, .func (.func 146) #[] #[.pointer (some ⟨pb, 0, none⟩)]] w fun e w' => e = .returned (.tuple #[]) ∧ Noting w0 w w' pb mb (addU f (plainD s C q)) := by
  have hea := each_any h hN.bel q
  have HEA := hid hea; have HH := hid h; have HS := hid hS; have HN := hid hN; have HC := hid hC
  have hn : n ≤ 1000 := by have := h.right.st0; have := hC.st; omega
  clear h hS hN hC hea
  go_enter Tryz.func101, Tryz.ntmps101
  go_wp2_with fail
  refine (HEA.out).mono ?_
  rintro e wb ⟨⟨a2, c2, b2, off2, rfl, hc2, hm2, hss⟩, hBb⟩
  have HN1 := hid (HN.out.call hBb)
  have HSS := hid hss
  have hsl : (s.outs q).length ≤ 10000 := outs_len HH.out.right q
  clear hss hBb hc2 hm2 HN HEA
  go_wp2_with fail
  go_loopw [9, 14] (fun _ v14 wr => ∃ k : Nat, v14 = .int .i64 k ∧ k ≤ (s.outs q).length ∧ Noting w0 w wr pb mb (addU f ((plainD s C q).take k))) (fun _ v14 _ => (s.outs q).length - (intOf v14).toNat)
  case atStart => exact ⟨0, rfl, Nat.zero_le _, HN1.out.congr (fun z => by rw [List.take_zero, addU_nil])⟩
  case round =>
    obtain ⟨k, rfl, hk, hnr⟩ := hrel
    have HNR := hid hnr
    have hpl := hnr.plt
    have hpc := hnr.cell
    clear hnr HN1
    by_cases hlt : k < (s.outs q).length
    · obtain ⟨y, hy⟩ := getElem?_of_lt hlt
      have hss := HSS.out.below HNR.out.bel (Nat.le_refl _)
      obtain rfl := hss.ad (by omega)
      have d0 := hss.s0 hy; have d1 := hss.s1 hy
      have dl := hss.lt (by omega)
      have hyr := offB_false.1 (HH.out.right.edges _ (mem_outs.1 (List.mem_of_getElem? hy)))
      have hD : (plainD s C q)[k]? = some (y.1, atL C y.2) := by unfold plainD; rw [List.getElem?_map, hy]; rfl
      have hlb := HH.out.right.st0
      obtain ⟨y1, y2⟩ := y
      simp only at hyr d0 d1 hD
      obtain ⟨t, rfl⟩ := Int.eq_ofNat_of_zero_le hyr.2.2.2.2.1
      have hst := HC.out.st
      have htn : t < n := by omega
      have htI : (t : Int) < (n : Int) := by omega
      have hcs := HS.out.below HNR.out.bel (Nat.le_refl _)
      have hcl := HC.out.len
      obtain rfl := hcs.ad (by omega)
      obtain ⟨x, hx⟩ := getElem?_of_lt (xs := C) (i := t) (by omega)
      have hcx := hcs.ci hx
      have hcbl := hcs.lt (by omega)
      have hax : atL C (t : Int) = x := by unfold atL; rw [List.getD_eq_getElem?_getD]; simp [hx]
      rw [hax] at hD
      have hok : okS (y1, x) := ⟨WalkArith.wf_i64 (by omega), HC.out.ok x (List.mem_of_getElem? hx)⟩
      have hkI : (k : Int) < ((s.outs q).length : Int) := by omega
      have HD := hid hD; have HOK := hid hok
      have hm := HNR.out.mlt
      have hcm : cb ≠ mb := by have := HS.out.lt (by omega); omega
      clear hy hss hyr hD hlb hst hcs hcl hx hax hok
      go_wp2_with fail
      obtain ⟨W, hW⟩ : ∃ W, W = wr.alloc (.cells #[.int .i64 y1, .int .i64 t] 131) := ⟨_, rfl⟩
      have hBW : Below wr.heap.size wr W := by rw [hW]; exact (Below.refl _ _).alloc (Nat.le_refl _) _
      have hmr : mb < wr.heap.size := by obtain ⟨_, hm⟩ := HNR.out.map; exact hm.lt
      have hws : wr.heap.size < W.heap.size := by rw [hW]; simp
      have s0 : W.cell? ⟨wr.heap.size, 0, none⟩ = some (.int .i64 y1) := by rw [hW]; simp
      have s1 : W.cell? ⟨wr.heap.size, 1, none⟩ = some (.int .i64 t) := by rw [hW]; simp
      have s2 : W.cell? ⟨cb, co + t, none⟩ = some (.int .i64 x) := by rw [hBW.cell (p := ⟨cb, co + t, none⟩) hcbl]; exact hcx
      have hNW := HNR.out.call hBW
      rw [← hW]
      have hkeep : ∀ w' : World, (∀ b, b < W.heap.size → b ≠ mb → w'.heap[b]? = W.heap[b]?) → (w'.cell? ⟨wr.heap.size, 0, none⟩ = some (.int .i64 y1) ∧ w'.cell? ⟨wr.heap.size, 1, none⟩ = some (.int .i64 t) ∧ w'.cell? ⟨cb, co + t, none⟩ = some (.int .i64 x)) := fun w' hb =>
        ⟨(World.cell?_of_block (a := ⟨wr.heap.size, 0, none⟩) (hb wr.heap.size hws (by omega))).trans s0, (World.cell?_of_block (a := ⟨wr.heap.size, 1, none⟩) (hb wr.heap.size hws (by omega))).trans s1, (World.cell?_of_block (a := ⟨cb, co + t, none⟩) (hb cb (by omega) hcm)).trans s2⟩
      have HK := hid hkeep; have HNW := hid (hNW.call (w' := W.drew) (Below.refl _ _).drew)
      clear hkeep hNW hW hBW HNR hcx d0 d1 dl hpc hpl
      have hz : W.drew.heap.size = W.heap.size := rfl
      go_region_held3 (fun w' => w'.cell? ⟨wr.heap.size, 0, none⟩ = some (.int .i64 y1) ∧ w'.cell? ⟨wr.heap.size, 1, none⟩ = some (.int .i64 t) ∧ w'.cell? ⟨cb, co + t, none⟩ = some (.int .i64 x))
        (first | exact HK.out _ (fun _ _ _ => rfl) | exact HK.out _ (by assumption))
        ((go_at_call 146; refine (note_any HNW.out.cell HNW.out.map.choose_spec y1 x HOK.out).mono ?_; rintro e w7 ⟨rfl, hm7, hg7⟩; have hb7 : ∀ b, b < W.heap.size → b ≠ mb → w7.heap[b]? = W.heap[b]? := fun b hb hne => hg7.block b hb (fun e => hne (Option.some.inj e))))
      have hn7 := (HNW.out.note hg7 hm7).congr (g := addU f ((plainD s C q).take (k + 1))) (fun z => by rw [take_snoc HD.out]; exact addU_snoc f _ _ z)
      have HN7 := hid hn7
      clear hn7 hm7 hg7 hb7 HK HNW
      go_wp2_with fail
      go_roundw
      case rel => exact ⟨k + 1, by go_num, by omega, HN7.out⟩
      case measure => simp [intOf]; omega
    · have hkk : (s.outs q).length = k := by omega
      subst hkk
      have hfin : Noting w0 w wr pb mb (addU f (plainD s C q)) := HNR.out.congr (fun z => by rw [List.take_of_length_le (by unfold plainD; simp)])
      have HF := hid hfin
      clear hfin HNR hpc
      go_wp2_with fail
      go_end0
      exact ⟨rfl, HF.out⟩
end Go.Proofs.YtffjcehopoaboaaGreatDoor
namespace Go.Proofs.YtffjcehopoaboaaGreatDoor
open Go.RowKit Pl
open Lib (hid)
attribute [local go_sem ↓] Go.wp_at_zero Go.wp_at_succ
structure RelAt (w : World) (s : Lts) (n : Nat) (C : List Int) (ca : Option Addr) (cb co : Nat) (da : Option Addr) (db : Nat) (ms : List Value) (D : Nat → List S) : Prop where
  cls : SlAt encI 1 w ca cb co C
  row : SlAt encV 1 w da db 0 ms
  len : ms.length = n
  maps : ∀ q, q < n → ∃ mb k, ms[q]? = some (.map (some mb)) ∧ OMap w mb encSv okS encU (addU (fun _ => none) (D q)) k
theorem RelAt.below {w w' : World} {s : Lts} {n : Nat} {C : List Int} {ca : Option Addr} {cb co : Nat} {da : Option Addr} {db : Nat} {ms : List Value} {D : Nat → List S} (h : RelAt w s n C ca cb co da db ms D) (hB : Below w.heap.size w w') : RelAt w' s n C ca cb co da db ms D :=
  ⟨h.cls.below hB (Nat.le_refl _), h.row.below hB (Nat.le_refl _), h.len, fun q hq => by
    obtain ⟨mb, k, h1, h2⟩ := h.maps q hq
    exact ⟨mb, k, h1, h2.of_block (hB.block _ h2.lt)⟩⟩
theorem addU_isSome (L : List S) (x : S) : (addU (fun _ => none) L x).isSome = decide (x ∈ L) := by
  unfold addU
  by_cases h : x ∈ L <;> simp [h]
set_option maxRecDepth 100000 in
set_option maxHeartbeats 2000000 in
theorem meets_any {w : World} {s : Lts} {n : Nat} {C : List Int} {ca : Option Addr} {cb co cc : Nat} {da : Option Addr} {db dc : Nat} {ms : List Value} {D : Nat → List S} (hR : RelAt w s n C ca cb co da db ms D) (hC : Cls s n C) (hn : n ≤ 1000) {q t : Nat} (hq : q < n) (ht : t < n) {l : Int} (hl : (Lit.int .i64 l).wf = true) :
    Calls Tryz.prog 248 #[.agg #[.slice ca n cc, .slice da n dc], .int .i64 q, .agg #[.int .i64 l, .int .i64 t]] w fun e w' => e = .returned (.bool (decide ((l, atL C (t : Int)) ∈ D q))) ∧ Below w.heap.size w w' := by
  obtain ⟨mb, k, hmq, hM⟩ := hR.maps q hq
  obtain ⟨x, hx⟩ := getElem?_of_lt (xs := C) (i := t) (by rw [hC.len]; exact ht)
  have hax : atL C (t : Int) = x := by unfold atL; rw [List.getD_eq_getElem?_getD]; simp [hx]
  rw [hax]
  obtain rfl := hR.cls.ad (by rw [hC.len]; omega)
  obtain rfl := hR.row.ad (by rw [hR.len]; omega)
  have c1 := hR.cls.ci hx; have c2 := hR.row.cv hmq
  have l1 := hR.cls.lt (by rw [hC.len]; omega); have l2 := hR.row.lt (by rw [hR.len]; omega)
  simp only [Nat.zero_add] at c2
  have hok : okS (l, x) := ⟨hl, hC.ok x (List.mem_of_getElem? hx)⟩
  obtain ⟨bb, hbb⟩ : ∃ bb, bb = decide ((l, x) ∈ D q) := ⟨_, rfl⟩
  have hlook : ∀ w', w'.heap[mb]? = w.heap[mb]? → (Instr.lookup 189 (.map (some mb)) (.agg #[.int .i64 l, .int .i64 x]) true).run Tryz.prog w' = .ok (.tuple #[.agg #[], .bool bb]) w' := fun w' hb => by
    have h := (hM.of_block (w' := w') hb).look encStep Tryz.underlying189 (zeroUnit w') (x := (l, x)) hok true
    rw [addU_isSome] at h
    rw [hbb]
    refine h.trans ?_
    unfold addU encU
    by_cases hm : (l, x) ∈ D q <;> simp [hm]
  have hml := hM.lt
  rw [← hbb]
  have hqI : (q : Int) < (n : Int) := by omega
  have htI : (t : Int) < (n : Int) := by omega
  have hb0 := ((Below.refl w.heap.size w).alloc (Nat.le_refl _) (.cells #[.slice (some ⟨cb, co, none⟩) n cc, .slice (some ⟨db, 0, none⟩) n dc] 188)).alloc (by simp) (.cells #[.int .i64 l, .int .i64 t] 131)
  have HL := hid hlook
  clear hR hC hmq hM hx hax hok hbb hlook
  go_enter Tryz.func248, Tryz.ntmps248
  go_wp2_with fail
  obtain ⟨W, hW⟩ : ∃ W, W = (w.alloc (.cells #[.slice (some ⟨cb, co, none⟩) n cc, .slice (some ⟨db, 0, none⟩) n dc] 188)).alloc (.cells #[.int .i64 l, .int .i64 t] 131) := ⟨_, rfl⟩
  have hz : W.heap.size = w.heap.size + 2 := by rw [hW]; simp
  have e0 : W.cell? ⟨w.heap.size, 0, none⟩ = some (.slice (some ⟨cb, co, none⟩) n cc) := by rw [hW]; simp [go_sem]
  have e1 : W.cell? ⟨w.heap.size, 1, none⟩ = some (.slice (some ⟨db, 0, none⟩) n dc) := by rw [hW]; simp [go_sem]
  have e2 : W.cell? ⟨w.heap.size + 1, 0, none⟩ = some (.int .i64 l) := by rw [hW]; simp [go_sem]
  have e3 : W.cell? ⟨w.heap.size + 1, 1, none⟩ = some (.int .i64 t) := by rw [hW]; simp [go_sem]
  rw [← hW] at hb0 ⊢
  have e4 : W.cell? ⟨cb, co + t, none⟩ = some (.int .i64 x) := by rw [hb0.cell (p := ⟨cb, co + t, none⟩) l1]; exact c1
  have e5 : W.cell? ⟨db, q, none⟩ = some (.map (some mb)) := by rw [hb0.cell (p := ⟨db, q, none⟩) l2]; exact c2
  have hkeep : ∀ w', Below W.heap.size W w' → (w'.cell? ⟨w.heap.size, 0, none⟩ = some (.slice (some ⟨cb, co, none⟩) n cc) ∧ w'.cell? ⟨w.heap.size, 1, none⟩ = some (.slice (some ⟨db, 0, none⟩) n dc) ∧ w'.cell? ⟨w.heap.size + 1, 0, none⟩ = some (.int .i64 l) ∧ w'.cell? ⟨w.heap.size + 1, 1, none⟩ = some (.int .i64 t) ∧ w'.cell? ⟨cb, co + t, none⟩ = some (.int .i64 x) ∧ w'.cell? ⟨db, q, none⟩ = some (.map (some mb)) ∧ (Instr.lookup 189 (.map (some mb)) (.agg #[.int .i64 l, .int .i64 x]) true).run Tryz.prog w' = .ok (.tuple #[.agg #[], .bool bb]) w') := fun w' h =>
    ⟨by rw [h.cell (p := ⟨w.heap.size, 0, none⟩) (by simp; omega)]; exact e0, by rw [h.cell (p := ⟨w.heap.size, 1, none⟩) (by simp; omega)]; exact e1, by rw [h.cell (p := ⟨w.heap.size + 1, 0, none⟩) (by simp; omega)]; exact e2, by rw [h.cell (p := ⟨w.heap.size + 1, 1, none⟩) (by simp; omega)]; exact e3,
      by rw [h.cell (p := ⟨cb, co + t, none⟩) (by simp; omega)]; exact e4, by rw [h.cell (p := ⟨db, q, none⟩) (by simp; omega)]; exact e5, HL.out _ (by rw [h.block _ (by omega), hb0.block _ hml])⟩
  have HK := hid hkeep; have HB0 := hid hb0
  clear hkeep hb0 hW c1 c2 e0 e1 e2 e3 e4 e5 HL
  go_region_held3 (fun w' => w'.cell? ⟨w.heap.size, 0, none⟩ = some (.slice (some ⟨cb, co, none⟩) n cc) ∧ w'.cell? ⟨w.heap.size, 1, none⟩ = some (.slice (some ⟨db, 0, none⟩) n dc) ∧ w'.cell? ⟨w.heap.size + 1, 0, none⟩ = some (.int .i64 l) ∧ w'.cell? ⟨w.heap.size + 1, 1, none⟩ = some (.int .i64 t) ∧ w'.cell? ⟨cb, co + t, none⟩ = some (.int .i64 x) ∧ w'.cell? ⟨db, q, none⟩ = some (.map (some mb)) ∧ (Instr.lookup 189 (.map (some mb)) (.agg #[.int .i64 l, .int .i64 x]) true).run Tryz.prog w' = .ok (.tuple #[.agg #[], .bool bb]) w')
    (first | exact HK.out _ (Below.refl _ _).drew | exact HK.out _ ((Below.refl _ _).drew.alloc (by simp) _) | exact HK.out _ (((Below.refl _ _).drew.alloc (by simp) _).alloc (by simp) _))
    (fail)
  all_goals
    go_wp2
    go_ret
    exact ⟨rfl, (HB0.out.alloc HB0.out.size _).drew⟩
theorem bSet4W {w0 w : World} {x0 x1 x2 x3 : Value} (h : Below w0.heap.size w0 w) : Below w0.heap.size w0 ((((w.setCell ⟨w0.heap.size, 0, none⟩ x0).setCell ⟨w0.heap.size, 1, none⟩ x1).setCell ⟨w0.heap.size, 2, none⟩ x2).setCell ⟨w0.heap.size, 3, none⟩ x3) :=
  (((h.setCell (Nat.le_refl _) _).setCell (Nat.le_refl _) _).setCell (Nat.le_refl _) _).setCell (Nat.le_refl _) _
/-! fails: the first step of p that q does not meet. -/
theorem meets_nilAhead (v : Value) (w : World) : (nilAhead 434 188 v "semblance/witness.meets").run Tryz.prog w = .ok (some false) w := by kernel_rfl
theorem meets_method (v : Value) (w : World) : (Go.method 434 188 v "semblance/witness.meets").run Tryz.prog w = .ok (248, v) w := by kernel_rfl
def failD (s : Lts) (C : List Int) (D : Nat → List S) (p q : Nat) : Option S := (s.outs (p : Int)).find? (fun x => !decide ((x.1, atL C x.2) ∈ D q))
def FailE (o : Option S) (p q : Nat) (e : Ending) : Prop :=
  match o with
  | some x => e = .returned (.tuple #[.agg #[.int .i64 p, .int .i64 q, .int .i64 x.1, .int .i64 x.2], .bool true])
  | none => e = .returned (.tuple #[.agg #[.int .i64 0, .int .i64 0, .int .i64 0, .int .i64 0], .bool false])
set_option maxRecDepth 100000 in
set_option maxHeartbeats 2000000 in
theorem fails_any {w0 w : World} {gb : Nat} {s : Lts} (h : GraphAt w0 gb s) (hB : Below w0.heap.size w0 w) {n : Nat} {C : List Int} {ca : Option Addr} {cb co cc : Nat} {da : Option Addr} {db dc : Nat} {ms : List Value} {D : Nat → List S} (hR : RelAt w s n C ca cb co da db ms D) (hC : Cls s n C) {p q : Nat} (hq : q < n) :
    Calls Tryz.prog 147 #[.pointer (some ⟨gb, 0, none⟩), .int .i64 p, .int .i64 q, .iface 188 (.agg #[.slice ca n cc, .slice da n dc])] w fun e w' => FailE (failD s C D p q) p q e ∧ Below w.heap.size w w' := by
  have hn : n ≤ 1000 := by have := h.right.st0; have := hC.st; omega
  have hna := meets_nilAhead
  have hme := meets_method
  have hbA := (Below.refl w.heap.size w).alloc (Nat.le_refl _) (.cells #[.int .i64 0, .int .i64 0, .int .i64 0, .int .i64 0] 67)
  have HEA := hid (each_any h (hB.trans (hbA.mono hB.size)) (p : Int))
  have HH := hid h; have HB := hid hB; have HR := hid hR; have HC := hid hC; have HBA := hid hbA
  have hfz := heap_alloc_new w (.cells #[.int .i64 0, .int .i64 0, .int .i64 0, .int .i64 0] 67)
  have HF0 := hid hfz
  clear h hB hR hC hbA hfz
  go_enter Tryz.func147, Tryz.ntmps147
  go_wp2_with fail
  refine (HEA.out).mono ?_
  rintro e wb ⟨⟨a2, c2, b2, off2, rfl, hc2, hm2, hss⟩, hBb⟩
  have HSS := hid hss
  have hsl : (s.outs (p : Int)).length ≤ 10000 := outs_len HH.out.right _
  have HBb := hid hBb
  clear hss hBb hc2 hm2 HEA
  go_wp2_with fail
  go_loopw [11, 16] (fun _ v16 wr => ∃ k : Nat, v16 = .int .i64 k ∧ k ≤ (s.outs (p : Int)).length ∧ (∀ x ∈ (s.outs (p : Int)).take k, (x.1, atL C x.2) ∈ D q) ∧ Below w.heap.size w wr ∧ wr.heap[w.heap.size]? = some (.cells #[.int .i64 0, .int .i64 0, .int .i64 0, .int .i64 0] 67 (0, 0)))
    (fun _ v16 _ => (s.outs (p : Int)).length - (intOf v16).toNat)
  case atStart => exact ⟨0, rfl, Nat.zero_le _, by simp, HBA.out.trans (HBb.out.mono (by simp)), (HBb.out.block _ (by simp)).trans HF0.out⟩
  case round =>
    obtain ⟨k, rfl, hk, hall, hbr, hfr⟩ := hrel
    have HALL := hid hall; have HBR := hid hbr; have HFR := hid hfr
    have hfl := (Array.getElem?_eq_some_iff.1 hfr).1
    clear hall hbr hfr HBb HF0 HBA
    by_cases hlt : k < (s.outs (p : Int)).length
    · obtain ⟨y, hy⟩ := getElem?_of_lt hlt
      have hss := HSS.out.below (HB.out.trans (HBR.out.mono HB.out.size)) (Nat.le_refl _)
      obtain rfl := hss.ad (by omega)
      have d0 := hss.s0 hy; have d1 := hss.s1 hy
      have dl := hss.lt (by omega)
      have hyr := offB_false.1 (HH.out.right.edges _ (mem_outs.1 (List.mem_of_getElem? hy)))
      have hlb := HH.out.right.st0
      have hst := HC.out.st
      obtain ⟨y1, y2⟩ := y
      simp only at hyr d0 d1
      obtain ⟨t, rfl⟩ := Int.eq_ofNat_of_zero_le hyr.2.2.2.2.1
      have htn : t < n := by omega
      have hwl : (Lit.int .i64 y1).wf = true := WalkArith.wf_i64 (by omega)
      have hkI : (k : Int) < ((s.outs (p : Int)).length : Int) := by omega
      have HY := hid hy
      have HME := hid (fun W' (hb : Below w.heap.size w W') => meets_any (cc := cc) (dc := dc) (HR.out.below hb) HC.out hn hq htn hwl)
      clear hy hss hyr hlb hst hwl htn
      have hbw := HBR.out.alloc HBR.out.size (.cells #[.int .i64 y1, .int .i64 t] 131)
      have HBW := hid hbw
      clear hbw
      go_wp2_with fail
      refine (HME.out _ HBW.out).mono ?_
      rintro e w5 ⟨rfl, hB5⟩
      have hs5 := hB5.size
      have hbx := (hB5.block wr.heap.size (by simp)).trans (heap_alloc_new wr (.cells #[.int .i64 y1, .int .i64 t] 131))
      have hff := (hB5.block w.heap.size (by simp; omega)).trans ((Below.heap_alloc wr (.cells #[.int .i64 y1, .int .i64 t] 131) w.heap.size hfl).trans HFR.out)
      have HB5 := hid (HBW.out.trans (hB5.mono HBW.out.size))
      by_cases hin : (y1, atL C (t : Int)) ∈ D q
      · have hd : decide ((y1, atL C (t : Int)) ∈ D q) = true := by simp [hin]
        rw [hd]
        have HFF := hid hff
        have hall2 : ∀ x ∈ (s.outs (p : Int)).take (k + 1), (x.1, atL C x.2) ∈ D q := by
          intro x hx
          rw [take_snoc HY.out] at hx
          rcases List.mem_append.1 hx with hx | hx
          · exact HALL.out x hx
          · simp at hx; subst hx; exact hin
        have HALL2 := hid hall2
        clear hd hin hff hbx hB5 hall2 HALL HBW HBR HFR HME
        go_wp2_with fail
        go_roundw
        case rel => exact ⟨k + 1, by go_num, by omega, HALL2.out, HB5.out, HFF.out⟩
        case measure => simp [intOf]; omega
      · have hd : decide ((y1, atL C (t : Int)) ∈ D q) = false := by simp [hin]
        rw [hd]
        have hfin : failD s C D p q = some (y1, (t : Int)) := by
          unfold failD
          rw [← List.take_append_drop k (s.outs (p : Int)), List.find?_append, List.find?_eq_none.2 (fun x hx => by simp [HALL.out x hx])]
          rw [List.drop_eq_getElem_cons hlt, List.find?_cons_of_pos]
          · have := (List.getElem?_eq_some_iff.1 HY.out).2
            rw [this]; rfl
          · have := (List.getElem?_eq_some_iff.1 HY.out).2
            rw [this]; simp [hin]
        have HFIN := hid hfin
        have b0 : w5.cell? ⟨wr.heap.size, 0, none⟩ = some (.int .i64 y1) := by simp [World.cell?, hbx]
        have b1 : w5.cell? ⟨wr.heap.size, 1, none⟩ = some (.int .i64 t) := by simp [World.cell?, hbx]
        have hbl := (Array.getElem?_eq_some_iff.1 hbx).1
        have f0 : w5.cell? ⟨w.heap.size, 0, none⟩ = some (.int .i64 0) := by simp [World.cell?, hff]
        have f1 : w5.cell? ⟨w.heap.size, 1, none⟩ = some (.int .i64 0) := by simp [World.cell?, hff]
        have f2 : w5.cell? ⟨w.heap.size, 2, none⟩ = some (.int .i64 0) := by simp [World.cell?, hff]
        have f3 : w5.cell? ⟨w.heap.size, 3, none⟩ = some (.int .i64 0) := by simp [World.cell?, hff]
        have z0 : w5.frozen? ⟨w.heap.size, 0, none⟩ = false := by simp [World.frozen?, hff]
        have z1 : w5.frozen? ⟨w.heap.size, 1, none⟩ = false := by simp [World.frozen?, hff]
        have z2 : w5.frozen? ⟨w.heap.size, 2, none⟩ = false := by simp [World.frozen?, hff]
        have z3 : w5.frozen? ⟨w.heap.size, 3, none⟩ = false := by simp [World.frozen?, hff]
        have hfl5 := (Array.getElem?_eq_some_iff.1 hff).1
        clear hd hin hff hbx hB5 HALL HBW HBR HFR HME hfin HY d0 d1 dl hfl
        go_wp2_with fail
        refine bodyPost_ret (v := .tuple #[.agg #[.int .i64 p, .int .i64 q, .int .i64 y1, .int .i64 t], .bool true]) (by simp [results, Tryz.results147, go_sem, f0, f1, f2, f3]) rfl ⟨?_, ?_⟩
        · rw [HFIN.out]; rfl
        · exact bSet4W HB5.out
    · have hkk : (s.outs (p : Int)).length = k := by omega
      subst hkk
      have hfin : failD s C D p q = none := by
        unfold failD
        rw [List.find?_eq_none]
        intro x hx
        have := HALL.out x (by rw [List.take_length]; exact hx)
        simp [this]
      have HFIN := hid hfin
      have hff := HFR.out
      have f0 : wr.cell? ⟨w.heap.size, 0, none⟩ = some (.int .i64 0) := by simp [World.cell?, hff]
      have f1 : wr.cell? ⟨w.heap.size, 1, none⟩ = some (.int .i64 0) := by simp [World.cell?, hff]
      have f2 : wr.cell? ⟨w.heap.size, 2, none⟩ = some (.int .i64 0) := by simp [World.cell?, hff]
      have f3 : wr.cell? ⟨w.heap.size, 3, none⟩ = some (.int .i64 0) := by simp [World.cell?, hff]
      have z0 : wr.frozen? ⟨w.heap.size, 0, none⟩ = false := by simp [World.frozen?, hff]
      have z1 : wr.frozen? ⟨w.heap.size, 1, none⟩ = false := by simp [World.frozen?, hff]
      have z2 : wr.frozen? ⟨w.heap.size, 2, none⟩ = false := by simp [World.frozen?, hff]
      have z3 : wr.frozen? ⟨w.heap.size, 3, none⟩ = false := by simp [World.frozen?, hff]
      clear hfin hff HALL HFR
      go_wp2_with fail
      refine bodyPost_ret (v := .tuple #[.agg #[.int .i64 0, .int .i64 0, .int .i64 0, .int .i64 0], .bool false]) (by simp [results, Tryz.results147, go_sem, f0, f1, f2, f3]) rfl ⟨?_, ?_⟩
      · rw [HFIN.out]; rfl
      · exact bSet4W HBR.out
end Go.Proofs.YtffjcehopoaboaaGreatDoor

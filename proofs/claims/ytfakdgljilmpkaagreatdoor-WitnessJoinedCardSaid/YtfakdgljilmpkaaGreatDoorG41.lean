/-
  Maps keyed by api.Step: how the keys read.
  witness: the closure that notes a step; plain: what a state does by classes.
-/
import Derived.Test.YtfakdgljilmpkaaGreatDoorG9
import Derived.Test.YtfakdgljilmpkaaGreatDoorG40
import Derived.Lib.SmallJoins
import Derived.MapViews
import Derived.Test.YtfakdgljilmpkaaGreatDoorGraphC
import Derived.Test.YtfakdgljilmpkaaGreatDoorG7
import Derived.Deep.RegionHeld3
import Derived.Deep.QuietTactic
import Derived.BigQuiet
namespace Go.Proofs.YtfakdgljilmpkaaGreatDoor
open Go.RowKit Go.ChangeShapes Pl

def encSv (x : S) : Value := .agg #[.int .i64 x.1, .int .i64 x.2]
def okS (x : S) : Prop := (Lit.int .i64 x.1).wf = true ∧ (Lit.int .i64 x.2).wf = true

theorem laidOutK : laidOutB Tryz.prog = true := by kernel_rfl
theorem rowStep : (101 : TypeId) < Tryz.prog.types.size := of_decide_eq_true (by kernel_rfl)
theorem wideStep : (match Tryz.prog.underlying 101 with | some (.array _ _) | some (.struct _) => true | _ => false) = true := by rw [Tryz.underlying101]
set_option maxRecDepth 100000 in
theorem lawStep : Go.WideMaps.KeyLaw Tryz.prog 101 := deep_law_laid laidOutK (m := 2) (by omega) rowStep (by kernel_rfl) wideStep
theorem deepStep : Tryz.prog.keyTypeAt (Tryz.prog.types.size + 1) 101 = true := by kernel_rfl
theorem cellsStep : Tryz.prog.cellsOf 101 = 2 := by kernel_rfl
theorem formedStep (c0 c1 : Value) : (Value.agg #[c0, c1]).formed Tryz.prog 101 = true := by simp [Value.formed, Tryz.underlying101, cellsStep]

set_option maxRecDepth 100000 in
theorem keyStep (x : S) (h : okS x) : ∃ l, keyOf Tryz.prog 101 (encSv x) = some l := by
  have t0 := shut_int (H := Unit) (enc := fun _ => ()) (P := Tryz.prog) (w := default) (base := 0) (spare := fun _ => true) (held := true) Tryz.underlying3 h.1
  have t1 := shut_int (H := Unit) (enc := fun _ => ()) (P := Tryz.prog) (w := default) (base := 0) (spare := fun _ => true) (held := true) Tryz.underlying3 h.2
  have h2 := Go.Joins.shut_agg2 (y0 := (.lit (.int .i64 x.1), [])) (y1 := (.lit (.int .i64 x.2), [])) Tryz.underlying101 (by kernel_rfl) cellsStep t0 t1
  exact ⟨_, (keyOf_asKey deepStep wideStep (formedStep _ _) h2).1⟩

theorem encStep : KeyEnc Tryz.prog 101 encSv okS where
  K := Go.Maps.Keyed.of_law lawStep
  key := keyStep
  inj x y h := by
    obtain ⟨x1, x2⟩ := x; obtain ⟨y1, y2⟩ := y
    unfold encSv at h
    simp only [Value.agg.injEq, Array.mk.injEq, List.cons.injEq, Value.int.injEq, true_and, and_true] at h
    rw [h.1, h.2]

def encU (_ : Unit) : Value := .agg #[]
theorem zeroUnit (w : World) : (zeroValue 119).run Tryz.prog w = .ok (.agg #[]) w := by kernel_rfl
end Go.Proofs.YtfakdgljilmpkaaGreatDoor

namespace Go.Proofs.YtfakdgljilmpkaaGreatDoor
open Go.RowKit Pl

set_option maxRecDepth 100000 in
/-- The closure of walk: notes one step. -/
theorem note_any {w : World} {pb mb n : Nat} {f : S → Option Unit} (hp : w.cell? ⟨pb, 0, none⟩ = some (.map (some mb))) (hM : OMap w mb encSv okS encU f n) (l c : Int) (hok : okS (l, c)) :
    Calls Tryz.prog 110 #[.int .i64 l, .int .i64 c, .pointer (some ⟨pb, 0, none⟩)] w fun e w' => e = .returned (.tuple #[]) ∧
      (∃ n', OMap w' mb encSv okS encU (fun z => if z = (l, c) then some () else f z) n') ∧ w.grownBy w' (some mb) := by
  have hpl := World.block_lt_of_cell? _ _ hp
  have HM := Lib.hid hM
  clear hM
  go_enter Tryz.func110, Tryz.ntmps110
  go_wp2_with (at_mapUpdate; refine wpList_oput rfl _ _ _ 177 rfl encStep Tryz.underlying177 rfl HM.out ((l, c) : S) hok rfl () rfl ?_; intro w1 hM1 hg1 hf1 hs1)
  go_end0
  exact ⟨rfl, ⟨_, hM1⟩, hg1⟩

/-- What state q does by classes, plainly. -/
def plainD (s : Lts) (C : List Int) (q : Int) : List S := (s.outs q).map (fun x => (x.1, atL C x.2))

/-- More steps are noted. -/
def addU (f : S → Option Unit) (L : List S) (z : S) : Option Unit := if z ∈ L then some () else f z
theorem addU_nil (f : S → Option Unit) (z : S) : addU f [] z = f z := by simp [addU]
theorem addU_snoc (f : S → Option Unit) (L : List S) (x z : S) : (if z = x then some () else addU f L z) = addU f (L ++ [x]) z := by
  unfold addU
  by_cases h : z = x
  · simp [h]
  · simp [h]
theorem addU_app (f : S → Option Unit) (L M : List S) (z : S) : addU (addU f L) M z = addU f (L ++ M) z := by
  unfold addU
  by_cases h : z ∈ M <;> by_cases h2 : z ∈ L <;> simp [h, h2]

/-- The world while steps are noted in the map mb, of which pb tells. -/
structure Noting (w0 w wr : World) (pb mb : Nat) (f : S → Option Unit) : Prop where
  bel : Below w0.heap.size w0 wr
  grown : w.grownBy wr (some mb)
  cell : wr.cell? ⟨pb, 0, none⟩ = some (.map (some mb))
  map : ∃ n, OMap wr mb encSv okS encU f n
  mlt : w0.heap.size ≤ mb
  pne : pb ≠ mb
theorem Noting.plt {w0 w wr : World} {pb mb : Nat} {f : S → Option Unit} (h : Noting w0 w wr pb mb f) : pb < wr.heap.size := World.block_lt_of_cell? _ _ h.cell
theorem Noting.call {w0 w wr w' : World} {pb mb : Nat} {f : S → Option Unit} (h : Noting w0 w wr pb mb f) (hB : Below wr.heap.size wr w') : Noting w0 w w' pb mb f := by
  obtain ⟨n, hm⟩ := h.map
  exact ⟨h.bel.trans (hB.mono h.bel.size), h.grown.trans ⟨hB.os, hB.tape, hB.output, hB.size, fun i hi _ => hB.block i hi⟩, by rw [hB.cell (p := ⟨pb, 0, none⟩) h.plt]; exact h.cell, ⟨n, hm.of_block (hB.block _ hm.lt)⟩, h.mlt, h.pne⟩
theorem Noting.note {w0 w wr w' : World} {pb mb : Nat} {f g : S → Option Unit} (h : Noting w0 w wr pb mb f) (hg : wr.grownBy w' (some mb)) (hm : ∃ n, OMap w' mb encSv okS encU g n) : Noting w0 w w' pb mb g :=
  ⟨h.bel.grown hg h.bel.size (fun k hk => by cases hk; exact h.mlt), h.grown.trans hg, by
    rw [World.cell?_of_block (w := wr) (a := ⟨pb, 0, none⟩) (hg.block pb h.plt (fun e => h.pne (Option.some.inj e)))]; exact h.cell, hm, h.mlt, h.pne⟩
theorem Noting.congr {w0 w wr : World} {pb mb : Nat} {f g : S → Option Unit} (h : Noting w0 w wr pb mb f) (e : ∀ z, f z = g z) : Noting w0 w wr pb mb g := by
  obtain ⟨n, hm⟩ := h.map
  exact ⟨h.bel, h.grown, h.cell, ⟨n, hm.congr e⟩, h.mlt, h.pne⟩

/-- Classes: a number of each state. -/
structure Cls (s : Lts) (n : Nat) (C : List Int) : Prop where
  len : C.length = n
  st : s.st = (n : Int)
  ok : ∀ x ∈ C, (Lit.int .i64 x).wf = true

set_option maxRecDepth 100000 in
set_option maxHeartbeats 2000000 in
theorem plain_any {w0 w : World} {gb : Nat} {s : Lts} (h : GraphAt w0 gb s) {n : Nat} {C : List Int} (hC : Cls s n C) {ca : Option Addr} {cb co cc : Nat} (hS : SlAt encI 1 w0 ca cb co C) {pb mb : Nat} {f : S → Option Unit} (hN : Noting w0 w w pb mb f) (q : Int) :
    Calls Tryz.prog 75 #[.pointer (some ⟨gb, 0, none⟩), .slice ca n cc, .int .i64 q, .func (.func 110) #[] #[.pointer (some ⟨pb, 0, none⟩)]] w fun e w' => e = .returned (.tuple #[]) ∧ Noting w0 w w' pb mb (addU f (plainD s C q)) := by
  have hea := each_any h hN.bel q
  have HEA := Lib.hid hea; have HH := Lib.hid h; have HS := Lib.hid hS; have HN := Lib.hid hN; have HC := Lib.hid hC
  have hn : n ≤ 1000 := by have := h.right.st0; have := hC.st; omega
  clear h hS hN hC hea
  go_enter Tryz.func75, Tryz.ntmps75
  go_wp2_with fail
  refine (HEA.out).mono ?_
  rintro e wb ⟨⟨a2, c2, b2, off2, rfl, hc2, hm2, hss⟩, hBb⟩
  have HN1 := Lib.hid (HN.out.call hBb)
  have HSS := Lib.hid hss
  have hsl : (s.outs q).length ≤ 10000 := outs_len HH.out.right q
  clear hss hBb hc2 hm2 HN HEA
  go_wp2_with fail
  go_loopw [9, 14] (fun _ v14 wr => ∃ k : Nat, v14 = .int .i64 k ∧ k ≤ (s.outs q).length ∧ Noting w0 w wr pb mb (addU f ((plainD s C q).take k))) (fun _ v14 _ => (s.outs q).length - (intOf v14).toNat)
  case atStart => exact ⟨0, rfl, Nat.zero_le _, HN1.out.congr (fun z => by rw [List.take_zero, addU_nil])⟩
  case round =>
    obtain ⟨k, rfl, hk, hnr⟩ := hrel
    have HNR := Lib.hid hnr
    have hpl := hnr.plt
    have hpc := hnr.cell
    clear hnr HN1
    by_cases hlt : k < (s.outs q).length
    · obtain ⟨y, hy⟩ := getElem?_of_lt hlt
      have hss := HSS.out.below HNR.out.bel (Nat.le_refl _)
      obtain rfl := hss.ad (by omega)
      have d0 := hss.s0 hy; have d1 := hss.s1 hy
      have dl := hss.lt (by omega)
      have hyr := offB_false.1 (HH.out.right.edges _ (mem_outs.1 (List.mem_of_getElem? hy)))
      have hD : (plainD s C q)[k]? = some (y.1, atL C y.2) := by unfold plainD; rw [List.getElem?_map, hy]; rfl
      have hlb := HH.out.right.st0
      obtain ⟨y1, y2⟩ := y
      simp only at hyr d0 d1 hD
      obtain ⟨t, rfl⟩ := Int.eq_ofNat_of_zero_le hyr.2.2.2.2.1
      have hst := HC.out.st
      have htn : t < n := by omega
      have htI : (t : Int) < (n : Int) := by omega
      have hcs := HS.out.below HNR.out.bel (Nat.le_refl _)
      have hcl := HC.out.len
      obtain rfl := hcs.ad (by omega)
      obtain ⟨x, hx⟩ := getElem?_of_lt (xs := C) (i := t) (by omega)
      have hcx := hcs.ci hx
      have hcbl := hcs.lt (by omega)
      have hax : atL C (t : Int) = x := by unfold atL; rw [List.getD_eq_getElem?_getD]; simp [hx]
      rw [hax] at hD
      have hok : okS (y1, x) := ⟨WalkArith.wf_i64 (by omega), HC.out.ok x (List.mem_of_getElem? hx)⟩
      have hkI : (k : Int) < ((s.outs q).length : Int) := by omega
      have HD := Lib.hid hD; have HOK := Lib.hid hok
      have hm := HNR.out.mlt
      have hcm : cb ≠ mb := by have := HS.out.lt (by omega); omega
      clear hy hss hyr hD hlb hst hcs hcl hx hax hok
      go_wp2_with fail
      obtain ⟨W, hW⟩ : ∃ W, W = wr.alloc (.cells #[.int .i64 y1, .int .i64 t] 101) := ⟨_, rfl⟩
      have hBW : Below wr.heap.size wr W := by rw [hW]; exact (Below.refl _ _).alloc (Nat.le_refl _) _
      have hmr : mb < wr.heap.size := by obtain ⟨_, hm⟩ := HNR.out.map; exact hm.lt
      have hws : wr.heap.size < W.heap.size := by rw [hW]; simp
      have s0 : W.cell? ⟨wr.heap.size, 0, none⟩ = some (.int .i64 y1) := by rw [hW]; simp
      have s1 : W.cell? ⟨wr.heap.size, 1, none⟩ = some (.int .i64 t) := by rw [hW]; simp
      have s2 : W.cell? ⟨cb, co + t, none⟩ = some (.int .i64 x) := by rw [hBW.cell (p := ⟨cb, co + t, none⟩) hcbl]; exact hcx
      have hNW := HNR.out.call hBW
      rw [← hW]
      have hkeep : ∀ w' : World, (∀ b, b < W.heap.size → b ≠ mb → w'.heap[b]? = W.heap[b]?) → (w'.cell? ⟨wr.heap.size, 0, none⟩ = some (.int .i64 y1) ∧ w'.cell? ⟨wr.heap.size, 1, none⟩ = some (.int .i64 t) ∧ w'.cell? ⟨cb, co + t, none⟩ = some (.int .i64 x)) := fun w' hb =>
        ⟨(World.cell?_of_block (a := ⟨wr.heap.size, 0, none⟩) (hb wr.heap.size hws (by omega))).trans s0, (World.cell?_of_block (a := ⟨wr.heap.size, 1, none⟩) (hb wr.heap.size hws (by omega))).trans s1, (World.cell?_of_block (a := ⟨cb, co + t, none⟩) (hb cb (by omega) hcm)).trans s2⟩
      have HK := Lib.hid hkeep; have HNW := Lib.hid (hNW.call (w' := W.drew) (Below.refl _ _).drew)
      clear hkeep hNW hW hBW HNR hcx d0 d1 dl hpc hpl
      have hz : W.drew.heap.size = W.heap.size := rfl
      go_region_held3 (fun w' => w'.cell? ⟨wr.heap.size, 0, none⟩ = some (.int .i64 y1) ∧ w'.cell? ⟨wr.heap.size, 1, none⟩ = some (.int .i64 t) ∧ w'.cell? ⟨cb, co + t, none⟩ = some (.int .i64 x))
        (first | exact HK.out _ (fun _ _ _ => rfl) | exact HK.out _ (by assumption))
        ((go_at_call 110; refine (note_any HNW.out.cell HNW.out.map.choose_spec y1 x HOK.out).mono ?_; rintro e w7 ⟨rfl, hm7, hg7⟩; have hb7 : ∀ b, b < W.heap.size → b ≠ mb → w7.heap[b]? = W.heap[b]? := fun b hb hne => hg7.block b hb (fun e => hne (Option.some.inj e))))
      have hn7 := (HNW.out.note hg7 hm7).congr (g := addU f ((plainD s C q).take (k + 1))) (fun z => by rw [take_snoc HD.out]; exact addU_snoc f _ _ z)
      have HN7 := Lib.hid hn7
      clear hn7 hm7 hg7 hb7 HK HNW
      go_wp2_with fail
      go_roundw
      case rel => exact ⟨k + 1, by go_num, by omega, HN7.out⟩
      case measure => simp [intOf]; omega
    · have hkk : (s.outs q).length = k := by omega
      subst hkk
      have hfin : Noting w0 w wr pb mb (addU f (plainD s C q)) := HNR.out.congr (fun z => by rw [List.take_of_length_le (by unfold plainD; simp)])
      have HF := Lib.hid hfin
      clear hfin HNR hpc
      go_wp2_with fail
      go_end0
      exact ⟨rfl, HF.out⟩
end Go.Proofs.YtfakdgljilmpkaaGreatDoor

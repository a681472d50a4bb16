/-
  system.Graph.Cut: the system of the reachable states alone.
-/
import Derived.Test.YtkmljelgogcobaaGreatDoorGGraphC
import Derived.Test.YtkmljelgogcobaaGreatDoorGPl5
import Derived.Deep.OwnRows
import Derived.Deep.RegionHeld3
import Derived.Deep.Cut
import Derived.Deep.CutRange
import Derived.Outline
import Derived.Deep.DeepMust
namespace Go.Proofs.YtkmljelgogcobaaGreatDoor
open Go.RowKit Pl

theorem cell_setOther {w : World} {p : Addr} (a : Addr) (v : Value) (h : a.block ≠ p.block) : (w.setCell p v).cell? a = w.cell? a := World.cell?_of_block (Below.heap_setCell _ _ _ _ h)

/-- The world within Cut. -/
structure CW (w wr : World) (R O TB n : Nat) (st lb s0 : Int) (v : Value) (es : List E) (tf : Nat → Int) : Prop where
  below : Below w.heap.size w wr
  rr : wr.heap[R]? = some (.cells #[.int .i64 0, .int .i64 0, .int .i64 0, .slice none 0 0] 24 (0, 0))
  oo : wr.heap[O]? = some (.cells #[.int .i64 st, .int .i64 lb, .int .i64 s0, v] 24 (0, 0))
  tt : wr.rowIs TB 3 n (fun j => .int .i64 (tf j))
  own : wr.ownsRow (TB + 1) 79 3 v es.length (es.flatMap encE)
  r0 : w.heap.size ≤ R
  ro : R < O
  ot : O < TB

section
variable {w wr w' : World} {R O TB n : Nat} {st lb s0 : Int} {v : Value} {es : List E} {tf : Nat → Int}

theorem CW.size (h : CW w wr R O TB n st lb s0 v es tf) : w.heap.size ≤ wr.heap.size ∧ TB < wr.heap.size := ⟨h.below.size, h.tt.lt⟩
theorem CW.call (h : CW w wr R O TB n st lb s0 v es tf) (hB : Below wr.heap.size wr w') : CW w w' R O TB n st lb s0 v es tf := by
  have hs := h.size; have h1 := h.ro; have h2 := h.ot; have h3 := h.r0
  exact ⟨h.below.trans (hB.mono (by omega)), by rw [hB.block _ (by omega)]; exact h.rr, by rw [hB.block _ (by omega)]; exact h.oo, h.tt.of_block (hB.block _ (by omega)), own_below h.own hB, h.r0, h.ro, h.ot⟩
theorem CW.alloc (h : CW w wr R O TB n st lb s0 v es tf) (o : Obj) : CW w (wr.alloc o) R O TB n st lb s0 v es tf := h.call ((Below.refl _ _).alloc (Nat.le_refl _) o)
theorem CW.drewN (h : CW w wr R O TB n st lb s0 v es tf) (m : Nat) : CW w (wr.drewN m) R O TB n st lb s0 v es tf := h.call (bdrew (Below.refl _ _))
theorem CW.setTo (h : CW w wr R O TB n st lb s0 v es tf) (i : Nat) (x : Int) : CW w (wr.setCell ⟨TB, i, none⟩ (.int .i64 x)) R O TB n st lb s0 v es (fun j => if j = i then x else tf j) := by
  have hs := h.size; have h1 := h.ro; have h2 := h.ot; have h3 := h.r0
  exact ⟨h.below.setCell (by show w.heap.size ≤ TB; omega) _, by rw [Below.heap_setCell _ _ _ _ (by show R ≠ TB; omega)]; exact h.rr, by rw [Below.heap_setCell _ _ _ _ (by show O ≠ TB; omega)]; exact h.oo,
    (h.tt.set i _).congr (fun j _ => by split <;> rfl), ownsRow_setCell_below h.own (by show TB < TB + 1; omega) _, h.r0, h.ro, h.ot⟩
theorem CW.congr {tf' : Nat → Int} (h : CW w wr R O TB n st lb s0 v es tf) (e : ∀ i, i < n → tf i = tf' i) : CW w wr R O TB n st lb s0 v es tf' :=
  ⟨h.below, h.rr, h.oo, h.tt.congr (fun i hi => by rw [e i hi]), h.own, h.r0, h.ro, h.ot⟩
theorem CW.setO (h : CW w wr R O TB n st lb s0 v es tf) (i : Nat) (x : Value) {st' lb' s0' : Int} (e : #[.int .i64 st, .int .i64 lb, .int .i64 s0, v].setIfInBounds i x = #[.int .i64 st', .int .i64 lb', .int .i64 s0', v]) :
    CW w (wr.setCell ⟨O, i, none⟩ x) R O TB n st' lb' s0' v es tf := by
  have hs := h.size; have h1 := h.ro; have h2 := h.ot; have h3 := h.r0
  exact ⟨h.below.setCell (by show w.heap.size ≤ O; omega) _, by rw [Below.heap_setCell _ _ _ _ (by show R ≠ O; omega)]; exact h.rr, by rw [heap_setCell_same _ _ _ _ _ _ h.oo, e],
    h.tt.setOther (by show TB ≠ O; omega) _, ownsRow_setCell_below h.own (by show O < TB + 1; omega) _, h.r0, h.ro, h.ot⟩
/-- Behind an append to the edges, ahead of the store. -/
theorem CW.keep {w1 : World} (h : CW w wr R O TB n st lb s0 v es tf) (hg : wr.grownBy w1 v.ownBlock) :
    w1.heap[R]? = wr.heap[R]? ∧ w1.heap[O]? = wr.heap[O]? ∧ w1.heap[TB]? = wr.heap[TB]? := by
  have hs := h.size; have h1 := h.ro; have h2 := h.ot; have h3 := h.r0
  have key : ∀ k, k ≤ TB → some k ≠ v.ownBlock := fun k hk e => by have := (h.own.lt k e.symm).1; omega
  exact ⟨hg.block _ (by omega) (key _ (by omega)), hg.block _ (by omega) (key _ (by omega)), hg.block _ (by omega) (key _ (by omega))⟩
theorem CW.setEs {w1 : World} {v' : Value} {es' : List E} (h : CW w wr R O TB n st lb s0 v es tf) (hown : w1.ownsRow (TB + 1) 79 3 v' es'.length (es'.flatMap encE)) (hg : wr.grownBy w1 v.ownBlock) :
    CW w (w1.setCell ⟨O, 3, none⟩ v') R O TB n st lb s0 v' es' tf := by
  have hs := h.size; have h1 := h.ro; have h2 := h.ot; have h3 := h.r0
  obtain ⟨k1, k2, k3⟩ := CW.keep h hg
  refine ⟨(h.below.grown hg hs.1 (fun k hk => by have := (h.own.lt k hk).1; omega)).setCell (by show w.heap.size ≤ O; omega) _, by rw [Below.heap_setCell _ _ _ _ (by show R ≠ O; omega), k1]; exact h.rr,
    by rw [heap_setCell_same _ _ _ _ _ _ (k2.trans h.oo)]; rfl, (h.tt.of_block k3).setOther (by show TB ≠ O; omega) _, ownsRow_setCell_below hown (by show O < TB + 1; omega) _, h.r0, h.ro, h.ot⟩
theorem CW.keepc {w1 : World} (h : CW w wr R O TB n st lb s0 v es tf) (hg : wr.grownBy w1 v.ownBlock) : w1.cell? ⟨O, 3, none⟩ = some v ∧ w1.frozen? ⟨O, 3, none⟩ = false := by
  have := (CW.keep h hg).2.1.trans h.oo
  constructor <;> simp [World.cell?, World.frozen?, this]
theorem CW.o0 (h : CW w wr R O TB n st lb s0 v es tf) : wr.cell? ⟨O, 0, none⟩ = some (.int .i64 st) ∧ wr.cell? ⟨O, 1, none⟩ = some (.int .i64 lb) ∧ wr.cell? ⟨O, 2, none⟩ = some (.int .i64 s0) ∧ wr.cell? ⟨O, 3, none⟩ = some v ∧ (∀ j, wr.frozen? ⟨O, j, none⟩ = false) := by
  have := h.oo
  refine ⟨?_, ?_, ?_, ?_, fun j => ?_⟩ <;> simp [World.cell?, World.frozen?, this]
theorem CW.rc (h : CW w wr R O TB n st lb s0 v es tf) : wr.cell? ⟨R, 0, none⟩ = some (.int .i64 0) ∧ wr.cell? ⟨R, 1, none⟩ = some (.int .i64 0) ∧ wr.cell? ⟨R, 2, none⟩ = some (.int .i64 0) ∧ wr.cell? ⟨R, 3, none⟩ = some (.slice none 0 0) ∧ (∀ j, wr.frozen? ⟨R, j, none⟩ = false) := by
  have := h.rr
  refine ⟨?_, ?_, ?_, ?_, fun j => ?_⟩ <;> simp [World.cell?, World.frozen?, this]
end

namespace Pl
/-- The new numbers, of the first k reachable states. -/
noncomputable def tfK (s : Lts) (k : Nat) (j : Nat) : Int := if (j : Int) ∈ (reachL s).take k then ((reachL s).idxOf (j : Int) : Int) else -1
theorem tfK_zero (s : Lts) (j : Nat) : tfK s 0 j = -1 := by simp [tfK]
theorem tfK_step {s : Lts} {k : Nat} {x : Nat} (hx : (reachL s)[k]? = some (x : Int)) (j : Nat) : (if j = x then (k : Int) else tfK s k j) = tfK s (k + 1) j := by
  unfold tfK
  rw [take_snoc hx]
  by_cases e : j = x
  · subst e
    rw [if_pos rfl, if_pos (by simp), idx_get (srt_nodup (reachL_srt s)) hx]
  · rw [if_neg e]
    have : ((j : Int) ∈ (reachL s).take k ++ [(x : Int)]) ↔ (j : Int) ∈ (reachL s).take k := by
      simp; omega
    simp only [this]
theorem tfK_all (s : Lts) (j : Nat) : tfK s (reachL s).length j = toOf s (j : Int) := by
  unfold tfK toOf; rw [List.take_length]
theorem toOf_rng (s : Lts) (x : Int) : -1 ≤ toOf s x ∧ toOf s x ≤ (reachL s).length := by
  by_cases h : x ∈ reachL s
  · have := toOf_in h; omega
  · rw [toOf_out h]; omega
noncomputable def cutK (s : Lts) (k : Nat) : List E := ((s.es.take k).filter (fun x => decide (0 ≤ toOf s x.1))).map (fun x => (toOf s x.1, x.2.1, toOf s x.2.2))
theorem cutK_no {s : Lts} {k : Nat} {x : E} (hx : s.es[k]? = some x) (h : toOf s x.1 < 0) : cutK s (k + 1) = cutK s k := by
  unfold cutK
  rw [take_snoc hx, List.filter_append]
  have : decide (0 ≤ toOf s x.1) = false := by simp; omega
  simp [this]
theorem cutK_yes {s : Lts} {k : Nat} {x : E} (hx : s.es[k]? = some x) (h : 0 ≤ toOf s x.1) : cutK s (k + 1) = cutK s k ++ [(toOf s x.1, x.2.1, toOf s x.2.2)] := by
  unfold cutK
  rw [take_snoc hx, List.filter_append]
  have : decide (0 ≤ toOf s x.1) = true := by simp; omega
  simp [this]
theorem cutK_all (s : Lts) : cutK s s.es.length = (cut s).es := by unfold cutK; rw [List.take_length]; rfl
theorem cutK_len (s : Lts) (k : Nat) : (cutK s k).length ≤ s.es.length := by
  unfold cutK
  rw [List.length_map]
  have h1 := List.length_filter_le (fun x => decide (0 ≤ toOf s x.1)) (s.es.take k)
  have h2 : (s.es.take k).length ≤ s.es.length := by simp; omega
  omega
end Pl

def CutPost (s : Lts) (n : Nat) (w : World) (e : Ending) (w' : World) : Prop :=
  ∃ v TB, e = .returned (.tuple #[.agg #[.int .i64 (cut s).st, .int .i64 (cut s).lb, .int .i64 (cut s).s0, v], .slice (some ⟨TB, 0, none⟩) n n]) ∧
    w'.ownsRow (TB + 1) 79 3 v (cut s).es.length ((cut s).es.flatMap encE) ∧ w'.rowIs TB 3 n (fun j => .int .i64 (toOf s (j : Int))) ∧ w.heap.size ≤ TB ∧ Below w.heap.size w w'

set_option maxRecDepth 100000 in
set_option maxHeartbeats 4000000 in
theorem cut_gen {w : World} {gp : Value} {s : Lts} {n : Nat} (hn : s.st = (n : Int)) (hn1 : n ≤ 1000) (hl : s.es.length ≤ 10000) (hes : ∀ x ∈ s.es, 0 ≤ x.1 ∧ x.1 < (n : Int) ∧ 0 ≤ x.2.2 ∧ x.2.2 < (n : Int)) (h0 : 0 ≤ s.s0 ∧ (0 < n → s.s0 < (n : Int)))
    (hL : ∀ w1, Below w.heap.size w w1 → Calls Tryz.prog 44 #[gp] w1 fun e w' => e = .returned (.int .i64 s.lb) ∧ Below w1.heap.size w1 w')
    (hS : ∀ w1, Below w.heap.size w w1 → Calls Tryz.prog 43 #[gp] w1 fun e w' => e = .returned (.int .i64 n) ∧ Below w1.heap.size w1 w')
    (hT : ∀ w1, Below w.heap.size w w1 → Calls Tryz.prog 45 #[gp] w1 fun e w' => e = .returned (.int .i64 s.s0) ∧ Below w1.heap.size w1 w')
    {ea : Option Addr} {ec eb eo : Nat} (hE : SlAt encE 3 w ea eb eo s.es)
    (hO : ∀ w1, Below w.heap.size w w1 → Calls Tryz.prog 61 #[gp] w1 fun e w' => e = .returned (.agg #[.int .i64 s.st, .int .i64 s.lb, .int .i64 s.s0, .slice ea s.es.length ec]) ∧ Below w1.heap.size w1 w')
    (hR : ∀ w1, Below w.heap.size w w1 → Calls Tryz.prog 16 #[gp] w1 fun e w' => ∃ v, e = .returned v ∧ w'.ownsRow w1.heap.size 3 1 v (reachL s).length ((reachL s).flatMap encI) ∧ Below w1.heap.size w1 w') :
    Calls Tryz.prog 17 #[gp] w (CutPost s n w) := by
  have HL := Lib.hid hL; have HS := Lib.hid hS; have HT := Lib.hid hT; have HO := Lib.hid hO; have HR := Lib.hid hR; have HN := Lib.hid hn; have HES := Lib.hid hes; have H0 := Lib.hid h0; have HE := Lib.hid hE
  have hmk := run_make_row' (P := Tryz.prog) 49 3 (.int .i64 0) 8 Tryz.underlying49 (by kernel_rfl) rfl .i64 .i64 n (by omega) (by omega)
  have hfl := fldSys3
  clear hL hS hT hO hR hn hes h0 hE
  go_enter Tryz.func17, Tryz.ntmps17
  go_wp2_with fail
  have hB0 := (Below.refl w.heap.size w).alloc (Nat.le_refl _) (Obj.cells #[.int .i64 0, .int .i64 0, .int .i64 0, .slice none 0 0] 24)
  refine (HL.out _ hB0).mono ?_
  rintro e w1 ⟨rfl, hB1⟩
  have hs1 : w.heap.size + 1 ≤ w1.heap.size := by have := hB1.size; simpa using this
  have hB1' := hB0.trans (hB1.mono (by simp))
  have q1 : w1.heap[w.heap.size]? = some (Obj.cells #[.int .i64 0, .int .i64 0, .int .i64 0, .slice none 0 0] 24) := by
    rw [hB1.block _ (by simp), heap_alloc_new]
  have HB1 := Lib.hid hB1'; have Q1 := Lib.hid q1
  clear hB0 hB1 hB1' q1
  go_wp2_with fail
  have hB2 := HB1.out.alloc (by omega) (Obj.cells #[.int .i64 0, .int .i64 s.lb, .int .i64 0, .slice none 0 0] 24)
  have o2 := heap_alloc_new w1 (Obj.cells #[.int .i64 0, .int .i64 s.lb, .int .i64 0, .slice none 0 0] 24)
  have r2 := Below.heap_alloc w1 (Obj.cells #[.int .i64 0, .int .i64 s.lb, .int .i64 0, .slice none 0 0] 24) w.heap.size (by omega)
  refine (HS.out _ hB2).mono ?_
  rintro e w3 ⟨rfl, hB3⟩
  have hs3 : w1.heap.size + 1 ≤ w3.heap.size := by have := hB3.size; simpa using this
  have hB3' := hB2.trans (hB3.mono (by simp; omega))
  have o3 := (hB3.block w1.heap.size (by simp)).trans o2
  have r3 := ((hB3.block w.heap.size (by simp; omega)).trans r2).trans Q1.out
  have hCW : CW w (w3.alloc (.cells (madeCells #[.int .i64 0] n) 3)) w.heap.size w1.heap.size w3.heap.size n 0 s.lb 0 (.slice none 0 0) [] (fun _ => 0) :=
    ⟨hB3'.alloc (by omega) _, by rw [Below.heap_alloc _ _ _ (by omega)]; exact r3, by rw [Below.heap_alloc _ _ _ (by omega)]; exact o3, World.rowIs_made w3 (.int .i64 0) n 3, ⟨rfl, .inl ⟨rfl, rfl⟩⟩, Nat.le_refl _, by omega, by omega⟩
  have HCW := Lib.hid hCW
  obtain ⟨O, hO⟩ : ∃ O, O = w1.heap.size := ⟨_, rfl⟩
  obtain ⟨TB, hTB⟩ : ∃ TB, TB = w3.heap.size := ⟨_, rfl⟩
  have hTBO : O < TB := by omega
  have hRO : w.heap.size < O := by omega
  rw [← hO, ← hTB] at HCW
  clear hB2 o2 r2 hB3 hB3' o3 r3 hCW HB1 Q1
  go_wp2_with fail
  rw [← hTB, ← hO]
  clear hO hTB hs1 hs3 hmk
  go_loopw [6, 19] (fun _ i19 wr => ∃ k : Nat, k ≤ n ∧ i19 = .int .i64 k ∧ CW w wr w.heap.size O TB n 0 s.lb 0 (.slice none 0 0) [] (fun j => if j < k then -1 else 0))
    (fun _ i19 _ => n - (intOf i19).toNat)
  case atStart => exact ⟨0, Nat.zero_le _, rfl, HCW.out.congr (fun i _ => by simp)⟩
  case round =>
    obtain ⟨k, hk, rfl, hcw⟩ := hrel
    have HC := Lib.hid hcw
    have hsz := hcw.size
    clear hcw HCW
    by_cases hlt : k < n
    · have hkn : (k : Int) < (n : Int) := by omega
      have hct := HC.out.tt.cell hlt
      have hft := HC.out.tt.frozen k
      rw [if_neg (by omega)] at hct
      go_wp2
      have hst := (HC.out.setTo k (-1)).congr (tf' := fun j => if j < k + 1 then -1 else 0) (fun i _ => by
        by_cases e : i = k
        · subst e; simp
        · rw [if_neg e]
          by_cases h : i < k
          · rw [if_pos h, if_pos (by omega)]
          · rw [if_neg h, if_neg (by omega)])
      have HST := Lib.hid hst
      clear hst
      go_roundw
      case rel => exact ⟨k + 1, by omega, by go_num, HST.out⟩
      case measure => simp [intOf]; omega
    · obtain rfl : k = n := by omega
      have hcw2 := HC.out.congr (tf' := tfK s 0) (fun i hi => by rw [if_pos hi, tfK_zero])
      have HC2 := Lib.hid hcw2
      clear hcw2 HC
      go_wp2_with fail
      refine (HR.out _ HC2.out.below).mono ?_
      rintro e w4 ⟨v, rfl, hown, hB4⟩
      obtain ⟨ra, rc, rb, rfl, hrc, _, hsl, hrb⟩ := slAt_own lenI hown
      have hcw4 := HC2.out.call hB4
      have HC4 := Lib.hid hcw4; have HSL := Lib.hid hsl
      have HRB := Lib.hid (fun h : 0 < (reachL s).length => Nat.lt_of_lt_of_le hsz.2 (hrb h))
      clear hown hB4 hsl hcw4 HC2 hrb
      have hLn : (reachL s).length ≤ k := by have := reachL_len (s := s); have := HN.out; omega
      go_wp2_with fail
      go_loopw [7, 8, 29] (fun _ _ i29 wr => ∃ i : Nat, i ≤ (reachL s).length ∧ i29 = .int .i64 i ∧ CW w wr w.heap.size O TB k i s.lb 0 (.slice none 0 0) [] (tfK s i) ∧ SlAt encI 1 wr ra rb 0 (reachL s))
        (fun _ _ i29 _ => (reachL s).length - (intOf i29).toNat)
      case atStart => exact ⟨0, Nat.zero_le _, rfl, HC4.out, HSL.out⟩
      case round =>
        obtain ⟨i, hi, rfl, hcw, hsl⟩ := hrel
        have HC := Lib.hid hcw
        have hsz := hcw.size
        by_cases hlt : i < (reachL s).length
        · obtain ⟨x, hx⟩ := getElem?_of_lt hlt
          have hxr := reachL_rng (List.mem_of_getElem? hx)
          obtain ⟨xn, rfl⟩ := Int.eq_ofNat_of_zero_le hxr.1
          have hxk : xn < k := by have := HN.out; omega
          obtain rfl := hsl.ad (by omega)
          have hcx := hsl.ci hx
          simp only [Nat.zero_add] at hcx
          have hrbl := hsl.lt (by omega)
          have HX := Lib.hid hx; have HSL2 := Lib.hid hsl
          have hxk' : (xn : Int) < (k : Int) := by omega
          have hct := hcw.tt.cell hxk
          have hft := hcw.tt.frozen xn
          have hro := hcw.ro
          obtain ⟨o0, o1, o2, o3, of⟩ := hcw.o0
          have of0 := of 0
          have hilt : (i : Int) < ((reachL s).length : Int) := by omega
          have hOT : ¬ TB = O := by omega
          clear hx hsl hcw HC4 HSL hxr of
          go_wp2
          have h1 := ((HC.out.setTo xn (i : Int)).setO 0 (.int .i64 ((i : Int) + 1)) (st' := ((i + 1 : Nat) : Int)) (lb' := s.lb) (s0' := 0) (by simp)).congr (tf' := tfK s (i + 1)) (fun j _ => tfK_step HX.out j)
          have h2 := ((HSL2.out.setOther (p := ⟨TB, xn, none⟩) (fun h => by have := HRB.out h; show rb ≠ TB; omega) (.int .i64 i)).setOther (p := ⟨O, 0, none⟩) (fun h => by have := HRB.out h; show rb ≠ O; omega) (.int .i64 ((i : Int) + 1)))
          have H1 := Lib.hid h1; have H2 := Lib.hid h2
          clear h1 h2
          go_roundw
          case rel => exact ⟨i + 1, by omega, by go_num, H1.out, H2.out⟩
          case measure => simp [intOf]; omega
        · obtain rfl : i = (reachL s).length := by omega
          have hcw2 := hcw.congr (tf' := fun j => toOf s (j : Int)) (fun j _ => tfK_all s j)
          have HC2 := Lib.hid hcw2
          obtain ⟨o0, o1, o2, o3, of⟩ := hcw.o0
          have of2 := of 2
          clear hcw hcw2 HC HC4 HSL hsl of
          by_cases hz : 0 < (reachL s).length
          · have hz' : (0 : Int) < ((reachL s).length : Int) := by omega
            have hk0 : 0 < k := by omega
            obtain ⟨zn, hzn⟩ := Int.eq_ofNat_of_zero_le H0.out.1
            have hzk : zn < k := by have := H0.out.2 hk0; omega
            go_wp2_with fail
            refine (HT.out _ HC2.out.below).mono ?_
            rw [hzn]
            rintro e w5 ⟨rfl, hB5⟩
            have hcw5 := HC2.out.call hB5
            have hct := hcw5.tt.cell hzk
            obtain ⟨p0, p1, p2, p3, pf⟩ := hcw5.o0
            have pf2 := pf 2
            have hsz5 := hcw5.size
            have hzk' : (zn : Int) < (k : Int) := by omega
            have HC5 := Lib.hid hcw5; have HZN := Lib.hid hzn
            have hOl : O < w5.heap.size := by omega
            clear hB5 hcw5 HC2 hzn o0 o1 o2 o3 of2 pf
            go_wp2_with fail
            have hc6 := HC5.out.setO 2 (.int .i64 (toOf s (zn : Int))) (st' := ((reachL s).length : Int)) (lb' := s.lb) (s0' := (cut s).s0) (by
              have : (reachL s).length ≠ 0 := by omega
              simp [cut, this, HZN.out])
            have HC6 := Lib.hid hc6
            clear hc6 HC5
            refine (HO.out _ HC6.out.below).mono ?_
            rintro e w7 ⟨rfl, hB7⟩
            have hc7 := HC6.out.call hB7
            have HC7 := Lib.hid hc7
            clear hB7 hc7 HC6
            go_wp2_with fail
            obtain ⟨S0, hS0⟩ : ∃ S0, S0 = (cut s).s0 := ⟨_, rfl⟩
            rw [← hS0] at HC7
            have HS0 := Lib.hid hS0; clear hS0
            have hRr := HC7.out.r0
            clear p0 p1 p2 p3 pf2 hct
            go_loopw [10, 56] (fun _ i56 wr => ∃ (i : Nat) (v : Value), i ≤ s.es.length ∧ i56 = .int .i64 i ∧ CW w wr w.heap.size O TB k ((reachL s).length : Int) s.lb S0 v (cutK s i) (fun j => toOf s (j : Int)))
              (fun _ i56 _ => s.es.length - (intOf i56).toNat)
            case atStart => exact ⟨0, _, Nat.zero_le _, rfl, HC7.out⟩
            case round =>
              obtain ⟨i, v, hi, rfl, hcw⟩ := hrel
              have HC := Lib.hid hcw
              have hsz := hcw.size
              clear HC7
              by_cases hlt : i < s.es.length
              · obtain ⟨x, hx⟩ := getElem?_of_lt hlt
                have hE2 := HE.out.below hcw.below (Nat.le_refl _)
                obtain rfl := hE2.ad (by omega)
                have d0 := hE2.e0 hx; have d1 := hE2.e1 hx; have d2 := hE2.e2 hx
                have hebl := hE2.lt (by omega)
                have hxr := HES.out x (List.mem_of_getElem? hx)
                obtain ⟨x1, x2, x3⟩ := x
                simp only at hxr d0 d1 d2
                obtain ⟨a1, rfl⟩ := Int.eq_ofNat_of_zero_le hxr.1
                obtain ⟨a3, rfl⟩ := Int.eq_ofNat_of_zero_le hxr.2.2.1
                have ha1 : a1 < k := by omega
                have ha3 : a3 < k := by omega
                have ha1' : (a1 : Int) < (k : Int) := by omega
                have ha3' : (a3 : Int) < (k : Int) := by omega
                have hct1 := hcw.tt.cell ha1
                have hct3 := hcw.tt.cell ha3
                have HX := Lib.hid hx
                have hr1 := toOf_rng s (a1 : Int)
                have hr3 := toOf_rng s (a3 : Int)
                obtain ⟨f1, hf1⟩ : ∃ f1, f1 = toOf s (a1 : Int) := ⟨_, rfl⟩
                obtain ⟨f3, hf3⟩ : ∃ f3, f3 = toOf s (a3 : Int) := ⟨_, rfl⟩
                rw [← hf1] at hct1 hr1; rw [← hf3] at hct3 hr3
                have HF1 := Lib.hid hf1; have HF3 := Lib.hid hf3
                obtain ⟨o0, o1, o2, o3, of⟩ := hcw.o0
                have of3 := of 3
                have hilt : (i : Int) < (s.es.length : Int) := by omega
                have hOl : O < wr.heap.size := by have := hcw.ot; omega
                have hTl : TB < wr.heap.size := hsz.2
                clear hx hE2 hcw hxr hf1 hf3 of
                by_cases hneg : f1 < 0
                · go_wp2
                  have hck := cutK_no HX.out (by rw [← HF1.out]; exact hneg)
                  have h1 := HC.out.alloc (.cells #[.int .i64 a1, .int .i64 x2, .int .i64 a3] 79)
                  rw [← hck] at h1
                  have H1 := Lib.hid h1
                  clear h1 hck
                  go_roundw
                  case rel => exact ⟨i + 1, v, by omega, by go_num, H1.out⟩
                  case measure => simp [intOf]; omega
                · have hck := cutK_yes HX.out (by rw [← HF1.out]; omega)
                  simp only [← HF1.out, ← HF3.out] at hck
                  have hcl := cutK_len s i
                  have HCK := Lib.hid hck
                  clear hck
                  have e0 : (wr.alloc (.cells #[.int .i64 a1, .int .i64 x2, .int .i64 a3] 79)).cell? ⟨wr.heap.size, 0, none⟩ = some (.int .i64 a1) := by simp [go_sem]
                  go_wp2_with fail
                  have nO : some O ≠ v.ownBlock := fun e => by have := (HC.out.own.lt _ e.symm).1; omega
                  have nT : some TB ≠ v.ownBlock := fun e => by have := (HC.out.own.lt _ e.symm).1; omega
                  have nW : some wr.heap.size ≠ v.ownBlock := fun e => by have := (HC.out.own.lt _ e.symm).2; omega
                  have mT : TB ≠ O := by omega
                  have mW : wr.heap.size ≠ O := by omega
                  refine wp_region_held_drew (S := (fun w' => w'.cell? ⟨TB, a1, none⟩ = some (.int .i64 f1) ∧ w'.cell? ⟨TB, a3, none⟩ = some (.int .i64 f3) ∧ w'.cell? ⟨wr.heap.size, 0, none⟩ = some (.int .i64 a1) ∧ w'.cell? ⟨wr.heap.size, 1, none⟩ = some (.int .i64 x2) ∧ w'.cell? ⟨wr.heap.size, 2, none⟩ = some (.int .i64 a3))) (by kernel_rfl) (by (try dsimp only); (first | go_keep | (go_split_ands; exact ⟨by rw [hg8.cell_far _ (by simp; omega) nT]; assumption, by rw [hg8.cell_far _ (by simp; omega) nT]; assumption, by rw [hg8.cell_far _ (by simp; omega) nW]; assumption, by rw [hg8.cell_far _ (by simp; omega) nW]; assumption, by rw [hg8.cell_far _ (by simp; omega) nW]; assumption⟩) | (go_split_ands; exact ⟨by rw [cell_setOther _ _ mT]; assumption, by rw [cell_setOther _ _ mT]; assumption, by rw [cell_setOther _ _ mW]; assumption, by rw [cell_setOther _ _ mW]; assumption, by rw [cell_setOther _ _ mW]; assumption⟩))) (fun hHeld => ?_)
                  refine wpAnyH_take (i := 0) (v := ?_) rfl (by kernel_rfl) (by kernel_rfl) (by kernel_rfl) (fun _ _ _ h => h) (Or.inl ⟨by rfl, ?_⟩) (by assumption) ?_
                  rotate_left
                  · intro w hSw
                    try dsimp only at hSw
                    go_simp
                    try with_reducible rfl
                  try simp only [Act.put, List.setIfInBounds_toArray]
                  refine wpAnyH_take (i := 2) (v := ?_) rfl (by kernel_rfl) (by kernel_rfl) (by kernel_rfl) (fun _ _ _ h => h) (Or.inl ⟨by rfl, ?_⟩) (by assumption) ?_
                  rotate_left
                  · intro w hSw
                    try dsimp only at hSw
                    go_simp
                    try with_reducible rfl
                  try simp only [Act.put]
                  refine wpAnyH_take (i := 3) (v := ?_) rfl (by kernel_rfl) (by kernel_rfl) (by kernel_rfl) (fun _ _ _ h => h) (Or.inl ⟨by rfl, ?_⟩) (by assumption) ?_
                  rotate_left
                  · intro w hSw
                    try dsimp only at hSw
                    go_simp
                    try with_reducible rfl
                  try simp only [Act.put]
                  refine wpAnyH_take (i := 4) (v := ?_) rfl (by kernel_rfl) (by kernel_rfl) (by kernel_rfl) (fun _ _ _ h => h) (Or.inl ⟨by rfl, ?_⟩) (by assumption) ?_
                  rotate_left
                  · intro w hSw
                    try dsimp only at hSw
                    go_simp
                    try with_reducible rfl
                  try simp only [Act.put]
                  refine wpAnyH_take (i := 5) (v := ?_) rfl (by kernel_rfl) (by kernel_rfl) (by kernel_rfl) (fun _ _ _ h => h) (Or.inl ⟨by rfl, ?_⟩) (by assumption) ?_
                  rotate_left
                  · intro w hSw
                    try dsimp only at hSw
                    go_simp
                    try with_reducible rfl
                  try simp only [Act.put]
                  refine wpAnyH_take (i := 6) (v := ?_) rfl (by kernel_rfl) (by kernel_rfl) (by kernel_rfl) (fun _ _ _ h => h) (Or.inl ⟨by rfl, ?_⟩) (by assumption) ?_
                  rotate_left
                  · intro w hSw
                    try dsimp only at hSw
                    go_simp
                    try with_reducible rfl
                  try simp only [Act.put]
                  refine wpAnyH_take (i := 7) (v := ?_) rfl (by kernel_rfl) (by kernel_rfl) (by kernel_rfl) (fun _ _ _ h => h) (Or.inl ⟨by rfl, ?_⟩) (by assumption) ?_
                  rotate_left
                  · intro w hSw
                    try dsimp only at hSw
                    go_simp
                    try with_reducible rfl
                  try simp only [Act.put]
                  refine wpAnyH_take (i := 8) (v := ?_) rfl (by kernel_rfl) (by kernel_rfl) (by kernel_rfl) (fun _ _ _ h => h) (Or.inl ⟨by rfl, ?_⟩) (by assumption) ?_
                  rotate_left
                  · intro w hSw
                    try dsimp only at hSw
                    go_simp
                    try with_reducible rfl
                  try simp only [Act.put]
                  refine wpAnyH_take (i := 9) (v := ?_) rfl (by kernel_rfl) (by kernel_rfl) (by kernel_rfl) (fun _ _ _ h => h) (Or.inl ⟨by rfl, ?_⟩) (by assumption) ?_
                  rotate_left
                  · intro w hSw
                    try dsimp only at hSw
                    go_simp
                    try with_reducible rfl
                  try simp only [Act.put]
                  refine wpAnyH_take (i := 10) (v := ?_) rfl (by kernel_rfl) (by kernel_rfl) (by kernel_rfl) (fun _ _ _ h => h) (Or.inl ⟨by rfl, ?_⟩) (by assumption) ?_
                  rotate_left
                  · intro w hSw
                    try dsimp only at hSw
                    go_simp
                    try with_reducible rfl
                  try simp only [Act.put]
                  refine wpAnyH_take (i := 11) (v := ?_) rfl (by kernel_rfl) (by kernel_rfl) (by kernel_rfl) (fun _ _ _ h => h) (Or.inl ⟨by rfl, ?_⟩) (by assumption) ?_
                  rotate_left
                  · intro w hSw
                    try dsimp only at hSw
                    go_simp
                    try with_reducible rfl
                  try simp only [Act.put]
                  refine wpAnyH_take (i := 12) (v := ?_) rfl (by kernel_rfl) (by kernel_rfl) (by kernel_rfl) (fun _ _ _ h => h) (Or.inl ⟨by rfl, ?_⟩) (by assumption) ?_
                  rotate_left
                  · intro w hSw
                    try dsimp only at hSw
                    go_simp
                    try with_reducible rfl
                  try simp only [Act.put]
                  refine wpAnyH_take (i := 13) (v := ?_) rfl (by kernel_rfl) (by kernel_rfl) (by kernel_rfl) (fun _ _ _ h => h) (Or.inl ⟨by rfl, ?_⟩) (by assumption) ?_
                  rotate_left
                  · intro w hSw
                    try dsimp only at hSw
                    go_simp
                    try with_reducible rfl
                  try simp only [Act.put]
                  refine wpAnyH_take (i := 14) (v := ?_) rfl (by kernel_rfl) (by kernel_rfl) (by kernel_rfl) (fun _ _ _ h => h) (Or.inl ⟨by rfl, ?_⟩) (by assumption) ?_
                  rotate_left
                  · intro w hSw
                    try dsimp only at hSw
                    go_simp
                    try with_reducible rfl
                  try simp only [Act.put]
                  refine wpAnyH_ready (rs := [1, 15]) (by kernel_rfl) (by simp) ?_
                  refine AllReadyH.cons rfl (fun K hK => ?_) (AllReadyH.cons rfl (fun K hK => ?_) AllReadyH.nil)
                  go_simp
                  refine hK.out _ _ (by (try dsimp only); (first | go_keep | (go_split_ands; exact ⟨by rw [hg8.cell_far _ (by simp; omega) nT]; assumption, by rw [hg8.cell_far _ (by simp; omega) nT]; assumption, by rw [hg8.cell_far _ (by simp; omega) nW]; assumption, by rw [hg8.cell_far _ (by simp; omega) nW]; assumption, by rw [hg8.cell_far _ (by simp; omega) nW]; assumption⟩) | (go_split_ands; exact ⟨by rw [cell_setOther _ _ mT]; assumption, by rw [cell_setOther _ _ mT]; assumption, by rw [cell_setOther _ _ mW]; assumption, by rw [cell_setOther _ _ mW]; assumption, by rw [cell_setOther _ _ mW]; assumption⟩))) (fun hHeld => ?_)
                  clear hK K
                  try simp only [Act.put, List.setIfInBounds_toArray, List.set_cons_zero, List.set_cons_succ]
                  refine wpAnyH_ready (rs := [15]) (by kernel_rfl) (by simp) ?_
                  refine AllReadyH.cons rfl (fun K hK => ?_) AllReadyH.nil
                  go_simp
                  refine hK.out _ _ (by (try dsimp only); (first | go_keep | (go_split_ands; exact ⟨by rw [hg8.cell_far _ (by simp; omega) nT]; assumption, by rw [hg8.cell_far _ (by simp; omega) nT]; assumption, by rw [hg8.cell_far _ (by simp; omega) nW]; assumption, by rw [hg8.cell_far _ (by simp; omega) nW]; assumption, by rw [hg8.cell_far _ (by simp; omega) nW]; assumption⟩) | (go_split_ands; exact ⟨by rw [cell_setOther _ _ mT]; assumption, by rw [cell_setOther _ _ mT]; assumption, by rw [cell_setOther _ _ mW]; assumption, by rw [cell_setOther _ _ mW]; assumption, by rw [cell_setOther _ _ mW]; assumption⟩))) (fun hHeld => ?_)
                  clear hK K
                  try simp only [Act.put, List.setIfInBounds_toArray, List.set_cons_zero, List.set_cons_succ]
                  refine wpAnyH_ready (rs := [16]) (by kernel_rfl) (by simp) ?_
                  refine AllReadyH.cons rfl (fun K hK => ?_) AllReadyH.nil
                  (refine step_app1 rfl _ _ _ (by rfl) rowE (by rfl) (World.ownsRow.drew ((HC.out.own.alloc _).alloc _)) ⟨wr.heap.size + 1, 0, none⟩ 1 1 [.int .i64 f1, .int .i64 x2, .int .i64 f3] (by rfl) (by rfl) (cells3 (by simp [go_sem]) (by simp [go_sem]) (by simp [go_sem])) (by simp [Value.oneCell']) (by decide) (by omega) (by unfold maxLen; omega) (by simp; omega) ?_; intro g cap w8 hown8 hg8; have kp := CW.keepc (((HC.out.alloc _).alloc _).drewN 1) hg8; have kp0 := kp.1; have kp1 := kp.2; clear kp)
                  refine hK.out _ _ (by (try dsimp only); (first | go_keep | (go_split_ands; exact ⟨by rw [hg8.cell_far _ (by simp; omega) nT]; assumption, by rw [hg8.cell_far _ (by simp; omega) nT]; assumption, by rw [hg8.cell_far _ (by simp; omega) nW]; assumption, by rw [hg8.cell_far _ (by simp; omega) nW]; assumption, by rw [hg8.cell_far _ (by simp; omega) nW]; assumption⟩) | (go_split_ands; exact ⟨by rw [cell_setOther _ _ mT]; assumption, by rw [cell_setOther _ _ mT]; assumption, by rw [cell_setOther _ _ mW]; assumption, by rw [cell_setOther _ _ mW]; assumption, by rw [cell_setOther _ _ mW]; assumption⟩))) (fun hHeld => ?_)
                  clear hK K
                  try simp only [Act.put, List.setIfInBounds_toArray]
                  refine wpAnyH_take (i := 17) (v := ?_) rfl (by kernel_rfl) (by kernel_rfl) (by kernel_rfl) (fun _ _ _ h => h) (Or.inl ⟨by rfl, ?_⟩) (by assumption) ?_
                  rotate_left
                  · intro w hSw
                    try dsimp only at hSw
                    go_simp
                    try with_reducible rfl
                  try simp only [Act.put]
                  refine wpAnyH_ready (rs := [18]) (by kernel_rfl) (by simp) ?_
                  refine AllReadyH.cons rfl (fun K hK => ?_) AllReadyH.nil
                  go_simp
                  refine hK.out _ _ (by (try dsimp only); (first | go_keep | (go_split_ands; exact ⟨by rw [hg8.cell_far _ (by simp; omega) nT]; assumption, by rw [hg8.cell_far _ (by simp; omega) nT]; assumption, by rw [hg8.cell_far _ (by simp; omega) nW]; assumption, by rw [hg8.cell_far _ (by simp; omega) nW]; assumption, by rw [hg8.cell_far _ (by simp; omega) nW]; assumption⟩) | (go_split_ands; exact ⟨by rw [cell_setOther _ _ mT]; assumption, by rw [cell_setOther _ _ mT]; assumption, by rw [cell_setOther _ _ mW]; assumption, by rw [cell_setOther _ _ mW]; assumption, by rw [cell_setOther _ _ mW]; assumption⟩))) (fun hHeld => ?_)
                  clear hK K
                  try simp only [Act.put, List.setIfInBounds_toArray, List.set_cons_zero, List.set_cons_succ]
                  refine wpAnyH_done (by kernel_rfl) ?_ _
                  rotate_left
                  go_simp
                  refine hK.out _ _ (by (try dsimp only); (first | go_keep | (go_split_ands; exact ⟨by rw [hg8.cell_far _ (by simp; omega) nT]; assumption, by rw [hg8.cell_far _ (by simp; omega) nT]; assumption, by rw [hg8.cell_far _ (by simp; omega) nW]; assumption, by rw [hg8.cell_far _ (by simp; omega) nW]; assumption, by rw [hg8.cell_far _ (by simp; omega) nW]; assumption⟩) | (go_split_ands; exact ⟨by rw [cell_setOther _ _ mT]; assumption, by rw [cell_setOther _ _ mT]; assumption, by rw [cell_setOther _ _ mW]; assumption, by rw [cell_setOther _ _ mW]; assumption, by rw [cell_setOther _ _ mW]; assumption⟩))) (fun hHeld => ?_)
                  clear hK K
                  try simp only [Act.put, List.setIfInBounds_toArray, List.set_cons_zero, List.set_cons_succ]
                  refine wpAnyH_ready (rs := [1]) (by kernel_rfl) (by simp) ?_
                  refine AllReadyH.cons rfl (fun K hK => ?_) AllReadyH.nil
                  go_simp
                  refine hK.out _ _ (by (try dsimp only); (first | go_keep | (go_split_ands; exact ⟨by rw [hg8.cell_far _ (by simp; omega) nT]; assumption, by rw [hg8.cell_far _ (by simp; omega) nT]; assumption, by rw [hg8.cell_far _ (by simp; omega) nW]; assumption, by rw [hg8.cell_far _ (by simp; omega) nW]; assumption, by rw [hg8.cell_far _ (by simp; omega) nW]; assumption⟩) | (go_split_ands; exact ⟨by rw [cell_setOther _ _ mT]; assumption, by rw [cell_setOther _ _ mT]; assumption, by rw [cell_setOther _ _ mW]; assumption, by rw [cell_setOther _ _ mW]; assumption, by rw [cell_setOther _ _ mW]; assumption⟩))) (fun hHeld => ?_)
                  clear hK K
                  try simp only [Act.put, List.setIfInBounds_toArray, List.set_cons_zero, List.set_cons_succ]
                  refine wpAnyH_ready (rs := [16]) (by kernel_rfl) (by simp) ?_
                  refine AllReadyH.cons rfl (fun K hK => ?_) AllReadyH.nil
                  (refine step_app1 rfl _ _ _ (by rfl) rowE (by rfl) (World.ownsRow.drew ((HC.out.own.alloc _).alloc _)) ⟨wr.heap.size + 1, 0, none⟩ 1 1 [.int .i64 f1, .int .i64 x2, .int .i64 f3] (by rfl) (by rfl) (cells3 (by simp [go_sem]) (by simp [go_sem]) (by simp [go_sem])) (by simp [Value.oneCell']) (by decide) (by omega) (by unfold maxLen; omega) (by simp; omega) ?_; intro g cap w8 hown8 hg8; have kp := CW.keepc (((HC.out.alloc _).alloc _).drewN 1) hg8; have kp0 := kp.1; have kp1 := kp.2; clear kp)
                  refine hK.out _ _ (by (try dsimp only); (first | go_keep | (go_split_ands; exact ⟨by rw [hg8.cell_far _ (by simp; omega) nT]; assumption, by rw [hg8.cell_far _ (by simp; omega) nT]; assumption, by rw [hg8.cell_far _ (by simp; omega) nW]; assumption, by rw [hg8.cell_far _ (by simp; omega) nW]; assumption, by rw [hg8.cell_far _ (by simp; omega) nW]; assumption⟩) | (go_split_ands; exact ⟨by rw [cell_setOther _ _ mT]; assumption, by rw [cell_setOther _ _ mT]; assumption, by rw [cell_setOther _ _ mW]; assumption, by rw [cell_setOther _ _ mW]; assumption, by rw [cell_setOther _ _ mW]; assumption⟩))) (fun hHeld => ?_)
                  clear hK K
                  try simp only [Act.put, List.setIfInBounds_toArray]
                  refine wpAnyH_take (i := 17) (v := ?_) rfl (by kernel_rfl) (by kernel_rfl) (by kernel_rfl) (fun _ _ _ h => h) (Or.inl ⟨by rfl, ?_⟩) (by assumption) ?_
                  rotate_left
                  · intro w hSw
                    try dsimp only at hSw
                    go_simp
                    try with_reducible rfl
                  try simp only [Act.put]
                  refine wpAnyH_ready (rs := [18]) (by kernel_rfl) (by simp) ?_
                  refine AllReadyH.cons rfl (fun K hK => ?_) AllReadyH.nil
                  go_simp
                  refine hK.out _ _ (by (try dsimp only); (first | go_keep | (go_split_ands; exact ⟨by rw [hg8.cell_far _ (by simp; omega) nT]; assumption, by rw [hg8.cell_far _ (by simp; omega) nT]; assumption, by rw [hg8.cell_far _ (by simp; omega) nW]; assumption, by rw [hg8.cell_far _ (by simp; omega) nW]; assumption, by rw [hg8.cell_far _ (by simp; omega) nW]; assumption⟩) | (go_split_ands; exact ⟨by rw [cell_setOther _ _ mT]; assumption, by rw [cell_setOther _ _ mT]; assumption, by rw [cell_setOther _ _ mW]; assumption, by rw [cell_setOther _ _ mW]; assumption, by rw [cell_setOther _ _ mW]; assumption⟩))) (fun hHeld => ?_)
                  clear hK K
                  try simp only [Act.put, List.setIfInBounds_toArray, List.set_cons_zero, List.set_cons_succ]
                  refine wpAnyH_done (by kernel_rfl) ?_ _
                  all_goals
                    have h1 := CW.setEs (v' := .slice (some ⟨g, 0, none⟩) ((cutK s i).length + 1) cap) (es' := cutK s i ++ [(f1, x2, f3)]) (((HC.out.alloc _).alloc _).drewN 1) (by rw [List.length_append, List.flatMap_append]; exact hown8) hg8
                    rw [← HCK.out] at h1
                    have H1 := Lib.hid h1
                    clear h1 hown8 hg8 nO nT nW kp1 kp0 mT mW
                    go_wp2
                    go_roundw
                    case rel => exact ⟨i + 1, _, by omega, by go_num, H1.out⟩
                    case measure => simp [intOf]; omega
              · obtain rfl : i = s.es.length := by omega
                obtain ⟨o0, o1, o2, o3, of⟩ := hcw.o0
                obtain ⟨z0, z1, z2, z3, zf⟩ := hcw.rc
                have zf0 := zf 0; have zf1 := zf 1; have zf2 := zf 2; have zf3 := zf 3
                have hRl : w.heap.size < wr.heap.size := by have := hcw.ro; have := hcw.ot; omega
                have hOl : O < wr.heap.size := by have := hcw.ot; omega
                have hown := hcw.own
                obtain ⟨ga, gn, gc, hv⟩ : ∃ a m c, v = .slice a m c := by
                  rcases hown.2 with ⟨rfl, _⟩ | ⟨g, cap, cur, rfl, _⟩
                  · exact ⟨_, _, _, rfl⟩
                  · exact ⟨_, _, _, rfl⟩
                subst hv
                have hne : ¬ O = w.heap.size := by omega
                clear hown hcw of zf
                go_wp2
                have hot := HC.out.ot
                have hown : (World.ownsRow _ (TB + 1) 79 3 _ _ _) := HC.out.own
                rw [cutK_all] at hown
                refine bodyPost_ret (v := .tuple #[.agg #[.int .i64 (reachL s).length, .int .i64 s.lb, .int .i64 S0, .slice ga gn gc], .slice (some ⟨TB, 0, none⟩) k k]) (by simp [results, Tryz.results17, go_sem, z0, z1, z2, z3]) rfl ⟨.slice ga gn gc, TB, by rw [HS0.out]; rfl, ?_, ?_, by omega, ?_⟩
                · exact ownsRow_setCell_below (ownsRow_setCell_below (ownsRow_setCell_below (ownsRow_setCell_below hown (by show w.heap.size < TB + 1; omega) _) (by show w.heap.size < TB + 1; omega) _) (by show w.heap.size < TB + 1; omega) _) (by show w.heap.size < TB + 1; omega) _
                · exact (((HC.out.tt.setOther (by show TB ≠ w.heap.size; omega) _).setOther (by show TB ≠ w.heap.size; omega) _).setOther (by show TB ≠ w.heap.size; omega) _).setOther (by show TB ≠ w.heap.size; omega) _
                · exact (((HC.out.below.setCell (Nat.le_refl _) _).setCell (Nat.le_refl _) _).setCell (Nat.le_refl _) _).setCell (Nat.le_refl _) _
          · have hz0 : (reachL s).length = 0 := by omega
            have hzb : decide ((0 : Int) < ((reachL s).length : Int)) = false := by simp [hz0]
            have hc6 := HC2.out
            rw [show (0 : Int) = (cut s).s0 by simp [cut, hz0]] at hc6
            have HC6 := Lib.hid hc6
            have HZ0 := Lib.hid hz0
            clear hc6 HC2 hz0
            go_wp2_with fail
            refine (HO.out _ HC6.out.below).mono ?_
            rintro e w7 ⟨rfl, hB7⟩
            have hc7 := HC6.out.call hB7
            have HC7 := Lib.hid hc7
            clear hB7 hc7 HC6
            go_wp2_with fail
            obtain ⟨S0, hS0⟩ : ∃ S0, S0 = (cut s).s0 := ⟨_, rfl⟩
            rw [← hS0] at HC7
            have HS0 := Lib.hid hS0; clear hS0
            have hRr := HC7.out.r0
            clear o0 o1 o2 o3 of2
            go_loopw [10, 56] (fun _ i56 wr => ∃ (i : Nat) (v : Value), i ≤ s.es.length ∧ i56 = .int .i64 i ∧ CW w wr w.heap.size O TB k ((reachL s).length : Int) s.lb S0 v (cutK s i) (fun j => toOf s (j : Int)))
              (fun _ i56 _ => s.es.length - (intOf i56).toNat)
            case atStart => exact ⟨0, _, Nat.zero_le _, rfl, HC7.out⟩
            case round =>
              obtain ⟨i, v, hi, rfl, hcw⟩ := hrel
              have HC := Lib.hid hcw
              have hsz := hcw.size
              clear HC7
              by_cases hlt : i < s.es.length
              · obtain ⟨x, hx⟩ := getElem?_of_lt hlt
                have hE2 := HE.out.below hcw.below (Nat.le_refl _)
                obtain rfl := hE2.ad (by omega)
                have d0 := hE2.e0 hx; have d1 := hE2.e1 hx; have d2 := hE2.e2 hx
                have hebl := hE2.lt (by omega)
                have hxr := HES.out x (List.mem_of_getElem? hx)
                obtain ⟨x1, x2, x3⟩ := x
                simp only at hxr d0 d1 d2
                obtain ⟨a1, rfl⟩ := Int.eq_ofNat_of_zero_le hxr.1
                obtain ⟨a3, rfl⟩ := Int.eq_ofNat_of_zero_le hxr.2.2.1
                have ha1 : a1 < k := by omega
                have ha3 : a3 < k := by omega
                have ha1' : (a1 : Int) < (k : Int) := by omega
                have ha3' : (a3 : Int) < (k : Int) := by omega
                have hct1 := hcw.tt.cell ha1
                have hct3 := hcw.tt.cell ha3
                have HX := Lib.hid hx
                have hr1 := toOf_rng s (a1 : Int)
                have hr3 := toOf_rng s (a3 : Int)
                obtain ⟨f1, hf1⟩ : ∃ f1, f1 = toOf s (a1 : Int) := ⟨_, rfl⟩
                obtain ⟨f3, hf3⟩ : ∃ f3, f3 = toOf s (a3 : Int) := ⟨_, rfl⟩
                rw [← hf1] at hct1 hr1; rw [← hf3] at hct3 hr3
                have HF1 := Lib.hid hf1; have HF3 := Lib.hid hf3
                obtain ⟨o0, o1, o2, o3, of⟩ := hcw.o0
                have of3 := of 3
                have hilt : (i : Int) < (s.es.length : Int) := by omega
                have hOl : O < wr.heap.size := by have := hcw.ot; omega
                have hTl : TB < wr.heap.size := hsz.2
                clear hx hE2 hcw hxr hf1 hf3 of
                by_cases hneg : f1 < 0
                · go_wp2
                  have hck := cutK_no HX.out (by rw [← HF1.out]; exact hneg)
                  have h1 := HC.out.alloc (.cells #[.int .i64 a1, .int .i64 x2, .int .i64 a3] 79)
                  rw [← hck] at h1
                  have H1 := Lib.hid h1
                  clear h1 hck
                  go_roundw
                  case rel => exact ⟨i + 1, v, by omega, by go_num, H1.out⟩
                  case measure => simp [intOf]; omega
                · have hck := cutK_yes HX.out (by rw [← HF1.out]; omega)
                  simp only [← HF1.out, ← HF3.out] at hck
                  have hcl := cutK_len s i
                  have HCK := Lib.hid hck
                  clear hck
                  have e0 : (wr.alloc (.cells #[.int .i64 a1, .int .i64 x2, .int .i64 a3] 79)).cell? ⟨wr.heap.size, 0, none⟩ = some (.int .i64 a1) := by simp [go_sem]
                  go_wp2_with fail
                  have nO : some O ≠ v.ownBlock := fun e => by have := (HC.out.own.lt _ e.symm).1; omega
                  have nT : some TB ≠ v.ownBlock := fun e => by have := (HC.out.own.lt _ e.symm).1; omega
                  have nW : some wr.heap.size ≠ v.ownBlock := fun e => by have := (HC.out.own.lt _ e.symm).2; omega
                  have mT : TB ≠ O := by omega
                  have mW : wr.heap.size ≠ O := by omega
                  refine wp_region_held_drew (S := (fun w' => w'.cell? ⟨TB, a1, none⟩ = some (.int .i64 f1) ∧ w'.cell? ⟨TB, a3, none⟩ = some (.int .i64 f3) ∧ w'.cell? ⟨wr.heap.size, 0, none⟩ = some (.int .i64 a1) ∧ w'.cell? ⟨wr.heap.size, 1, none⟩ = some (.int .i64 x2) ∧ w'.cell? ⟨wr.heap.size, 2, none⟩ = some (.int .i64 a3))) (by kernel_rfl) (by (try dsimp only); (first | go_keep | (go_split_ands; exact ⟨by rw [hg8.cell_far _ (by simp; omega) nT]; assumption, by rw [hg8.cell_far _ (by simp; omega) nT]; assumption, by rw [hg8.cell_far _ (by simp; omega) nW]; assumption, by rw [hg8.cell_far _ (by simp; omega) nW]; assumption, by rw [hg8.cell_far _ (by simp; omega) nW]; assumption⟩) | (go_split_ands; exact ⟨by rw [cell_setOther _ _ mT]; assumption, by rw [cell_setOther _ _ mT]; assumption, by rw [cell_setOther _ _ mW]; assumption, by rw [cell_setOther _ _ mW]; assumption, by rw [cell_setOther _ _ mW]; assumption⟩))) (fun hHeld => ?_)
                  refine wpAnyH_take (i := 0) (v := ?_) rfl (by kernel_rfl) (by kernel_rfl) (by kernel_rfl) (fun _ _ _ h => h) (Or.inl ⟨by rfl, ?_⟩) (by assumption) ?_
                  rotate_left
                  · intro w hSw
                    try dsimp only at hSw
                    go_simp
                    try with_reducible rfl
                  try simp only [Act.put, List.setIfInBounds_toArray]
                  refine wpAnyH_take (i := 2) (v := ?_) rfl (by kernel_rfl) (by kernel_rfl) (by kernel_rfl) (fun _ _ _ h => h) (Or.inl ⟨by rfl, ?_⟩) (by assumption) ?_
                  rotate_left
                  · intro w hSw
                    try dsimp only at hSw
                    go_simp
                    try with_reducible rfl
                  try simp only [Act.put]
                  refine wpAnyH_take (i := 3) (v := ?_) rfl (by kernel_rfl) (by kernel_rfl) (by kernel_rfl) (fun _ _ _ h => h) (Or.inl ⟨by rfl, ?_⟩) (by assumption) ?_
                  rotate_left
                  · intro w hSw
                    try dsimp only at hSw
                    go_simp
                    try with_reducible rfl
                  try simp only [Act.put]
                  refine wpAnyH_take (i := 4) (v := ?_) rfl (by kernel_rfl) (by kernel_rfl) (by kernel_rfl) (fun _ _ _ h => h) (Or.inl ⟨by rfl, ?_⟩) (by assumption) ?_
                  rotate_left
                  · intro w hSw
                    try dsimp only at hSw
                    go_simp
                    try with_reducible rfl
                  try simp only [Act.put]
                  refine wpAnyH_take (i := 5) (v := ?_) rfl (by kernel_rfl) (by kernel_rfl) (by kernel_rfl) (fun _ _ _ h => h) (Or.inl ⟨by rfl, ?_⟩) (by assumption) ?_
                  rotate_left
                  · intro w hSw
                    try dsimp only at hSw
                    go_simp
                    try with_reducible rfl
                  try simp only [Act.put]
                  refine wpAnyH_take (i := 6) (v := ?_) rfl (by kernel_rfl) (by kernel_rfl) (by kernel_rfl) (fun _ _ _ h => h) (Or.inl ⟨by rfl, ?_⟩) (by assumption) ?_
                  rotate_left
                  · intro w hSw
                    try dsimp only at hSw
                    go_simp
                    try with_reducible rfl
                  try simp only [Act.put]
                  refine wpAnyH_take (i := 7) (v := ?_) rfl (by kernel_rfl) (by kernel_rfl) (by kernel_rfl) (fun _ _ _ h => h) (Or.inl ⟨by rfl, ?_⟩) (by assumption) ?_
                  rotate_left
                  · intro w hSw
                    try dsimp only at hSw
                    go_simp
                    try with_reducible rfl
                  try simp only [Act.put]
                  refine wpAnyH_take (i := 8) (v := ?_) rfl (by kernel_rfl) (by kernel_rfl) (by kernel_rfl) (fun _ _ _ h => h) (Or.inl ⟨by rfl, ?_⟩) (by assumption) ?_
                  rotate_left
                  · intro w hSw
                    try dsimp only at hSw
                    go_simp
                    try with_reducible rfl
                  try simp only [Act.put]
                  refine wpAnyH_take (i := 9) (v := ?_) rfl (by kernel_rfl) (by kernel_rfl) (by kernel_rfl) (fun _ _ _ h => h) (Or.inl ⟨by rfl, ?_⟩) (by assumption) ?_
                  rotate_left
                  · intro w hSw
                    try dsimp only at hSw
                    go_simp
                    try with_reducible rfl
                  try simp only [Act.put]
                  refine wpAnyH_take (i := 10) (v := ?_) rfl (by kernel_rfl) (by kernel_rfl) (by kernel_rfl) (fun _ _ _ h => h) (Or.inl ⟨by rfl, ?_⟩) (by assumption) ?_
                  rotate_left
                  · intro w hSw
                    try dsimp only at hSw
                    go_simp
                    try with_reducible rfl
                  try simp only [Act.put]
                  refine wpAnyH_take (i := 11) (v := ?_) rfl (by kernel_rfl) (by kernel_rfl) (by kernel_rfl) (fun _ _ _ h => h) (Or.inl ⟨by rfl, ?_⟩) (by assumption) ?_
                  rotate_left
                  · intro w hSw
                    try dsimp only at hSw
                    go_simp
                    try with_reducible rfl
                  try simp only [Act.put]
                  refine wpAnyH_take (i := 12) (v := ?_) rfl (by kernel_rfl) (by kernel_rfl) (by kernel_rfl) (fun _ _ _ h => h) (Or.inl ⟨by rfl, ?_⟩) (by assumption) ?_
                  rotate_left
                  · intro w hSw
                    try dsimp only at hSw
                    go_simp
                    try with_reducible rfl
                  try simp only [Act.put]
                  refine wpAnyH_take (i := 13) (v := ?_) rfl (by kernel_rfl) (by kernel_rfl) (by kernel_rfl) (fun _ _ _ h => h) (Or.inl ⟨by rfl, ?_⟩) (by assumption) ?_
                  rotate_left
                  · intro w hSw
                    try dsimp only at hSw
                    go_simp
                    try with_reducible rfl
                  try simp only [Act.put]
                  refine wpAnyH_take (i := 14) (v := ?_) rfl (by kernel_rfl) (by kernel_rfl) (by kernel_rfl) (fun _ _ _ h => h) (Or.inl ⟨by rfl, ?_⟩) (by assumption) ?_
                  rotate_left
                  · intro w hSw
                    try dsimp only at hSw
                    go_simp
                    try with_reducible rfl
                  try simp only [Act.put]
                  refine wpAnyH_ready (rs := [1, 15]) (by kernel_rfl) (by simp) ?_
                  refine AllReadyH.cons rfl (fun K hK => ?_) (AllReadyH.cons rfl (fun K hK => ?_) AllReadyH.nil)
                  go_simp
                  refine hK.out _ _ (by (try dsimp only); (first | go_keep | (go_split_ands; exact ⟨by rw [hg8.cell_far _ (by simp; omega) nT]; assumption, by rw [hg8.cell_far _ (by simp; omega) nT]; assumption, by rw [hg8.cell_far _ (by simp; omega) nW]; assumption, by rw [hg8.cell_far _ (by simp; omega) nW]; assumption, by rw [hg8.cell_far _ (by simp; omega) nW]; assumption⟩) | (go_split_ands; exact ⟨by rw [cell_setOther _ _ mT]; assumption, by rw [cell_setOther _ _ mT]; assumption, by rw [cell_setOther _ _ mW]; assumption, by rw [cell_setOther _ _ mW]; assumption, by rw [cell_setOther _ _ mW]; assumption⟩))) (fun hHeld => ?_)
                  clear hK K
                  try simp only [Act.put, List.setIfInBounds_toArray, List.set_cons_zero, List.set_cons_succ]
                  refine wpAnyH_ready (rs := [15]) (by kernel_rfl) (by simp) ?_
                  refine AllReadyH.cons rfl (fun K hK => ?_) AllReadyH.nil
                  go_simp
                  refine hK.out _ _ (by (try dsimp only); (first | go_keep | (go_split_ands; exact ⟨by rw [hg8.cell_far _ (by simp; omega) nT]; assumption, by rw [hg8.cell_far _ (by simp; omega) nT]; assumption, by rw [hg8.cell_far _ (by simp; omega) nW]; assumption, by rw [hg8.cell_far _ (by simp; omega) nW]; assumption, by rw [hg8.cell_far _ (by simp; omega) nW]; assumption⟩) | (go_split_ands; exact ⟨by rw [cell_setOther _ _ mT]; assumption, by rw [cell_setOther _ _ mT]; assumption, by rw [cell_setOther _ _ mW]; assumption, by rw [cell_setOther _ _ mW]; assumption, by rw [cell_setOther _ _ mW]; assumption⟩))) (fun hHeld => ?_)
                  clear hK K
                  try simp only [Act.put, List.setIfInBounds_toArray, List.set_cons_zero, List.set_cons_succ]
                  refine wpAnyH_ready (rs := [16]) (by kernel_rfl) (by simp) ?_
                  refine AllReadyH.cons rfl (fun K hK => ?_) AllReadyH.nil
                  (refine step_app1 rfl _ _ _ (by rfl) rowE (by rfl) (World.ownsRow.drew ((HC.out.own.alloc _).alloc _)) ⟨wr.heap.size + 1, 0, none⟩ 1 1 [.int .i64 f1, .int .i64 x2, .int .i64 f3] (by rfl) (by rfl) (cells3 (by simp [go_sem]) (by simp [go_sem]) (by simp [go_sem])) (by simp [Value.oneCell']) (by decide) (by omega) (by unfold maxLen; omega) (by simp; omega) ?_; intro g cap w8 hown8 hg8; have kp := CW.keepc (((HC.out.alloc _).alloc _).drewN 1) hg8; have kp0 := kp.1; have kp1 := kp.2; clear kp)
                  refine hK.out _ _ (by (try dsimp only); (first | go_keep | (go_split_ands; exact ⟨by rw [hg8.cell_far _ (by simp; omega) nT]; assumption, by rw [hg8.cell_far _ (by simp; omega) nT]; assumption, by rw [hg8.cell_far _ (by simp; omega) nW]; assumption, by rw [hg8.cell_far _ (by simp; omega) nW]; assumption, by rw [hg8.cell_far _ (by simp; omega) nW]; assumption⟩) | (go_split_ands; exact ⟨by rw [cell_setOther _ _ mT]; assumption, by rw [cell_setOther _ _ mT]; assumption, by rw [cell_setOther _ _ mW]; assumption, by rw [cell_setOther _ _ mW]; assumption, by rw [cell_setOther _ _ mW]; assumption⟩))) (fun hHeld => ?_)
                  clear hK K
                  try simp only [Act.put, List.setIfInBounds_toArray]
                  refine wpAnyH_take (i := 17) (v := ?_) rfl (by kernel_rfl) (by kernel_rfl) (by kernel_rfl) (fun _ _ _ h => h) (Or.inl ⟨by rfl, ?_⟩) (by assumption) ?_
                  rotate_left
                  · intro w hSw
                    try dsimp only at hSw
                    go_simp
                    try with_reducible rfl
                  try simp only [Act.put]
                  refine wpAnyH_ready (rs := [18]) (by kernel_rfl) (by simp) ?_
                  refine AllReadyH.cons rfl (fun K hK => ?_) AllReadyH.nil
                  go_simp
                  refine hK.out _ _ (by (try dsimp only); (first | go_keep | (go_split_ands; exact ⟨by rw [hg8.cell_far _ (by simp; omega) nT]; assumption, by rw [hg8.cell_far _ (by simp; omega) nT]; assumption, by rw [hg8.cell_far _ (by simp; omega) nW]; assumption, by rw [hg8.cell_far _ (by simp; omega) nW]; assumption, by rw [hg8.cell_far _ (by simp; omega) nW]; assumption⟩) | (go_split_ands; exact ⟨by rw [cell_setOther _ _ mT]; assumption, by rw [cell_setOther _ _ mT]; assumption, by rw [cell_setOther _ _ mW]; assumption, by rw [cell_setOther _ _ mW]; assumption, by rw [cell_setOther _ _ mW]; assumption⟩))) (fun hHeld => ?_)
                  clear hK K
                  try simp only [Act.put, List.setIfInBounds_toArray, List.set_cons_zero, List.set_cons_succ]
                  refine wpAnyH_done (by kernel_rfl) ?_ _
                  rotate_left
                  go_simp
                  refine hK.out _ _ (by (try dsimp only); (first | go_keep | (go_split_ands; exact ⟨by rw [hg8.cell_far _ (by simp; omega) nT]; assumption, by rw [hg8.cell_far _ (by simp; omega) nT]; assumption, by rw [hg8.cell_far _ (by simp; omega) nW]; assumption, by rw [hg8.cell_far _ (by simp; omega) nW]; assumption, by rw [hg8.cell_far _ (by simp; omega) nW]; assumption⟩) | (go_split_ands; exact ⟨by rw [cell_setOther _ _ mT]; assumption, by rw [cell_setOther _ _ mT]; assumption, by rw [cell_setOther _ _ mW]; assumption, by rw [cell_setOther _ _ mW]; assumption, by rw [cell_setOther _ _ mW]; assumption⟩))) (fun hHeld => ?_)
                  clear hK K
                  try simp only [Act.put, List.setIfInBounds_toArray, List.set_cons_zero, List.set_cons_succ]
                  refine wpAnyH_ready (rs := [1]) (by kernel_rfl) (by simp) ?_
                  refine AllReadyH.cons rfl (fun K hK => ?_) AllReadyH.nil
                  go_simp
                  refine hK.out _ _ (by (try dsimp only); (first | go_keep | (go_split_ands; exact ⟨by rw [hg8.cell_far _ (by simp; omega) nT]; assumption, by rw [hg8.cell_far _ (by simp; omega) nT]; assumption, by rw [hg8.cell_far _ (by simp; omega) nW]; assumption, by rw [hg8.cell_far _ (by simp; omega) nW]; assumption, by rw [hg8.cell_far _ (by simp; omega) nW]; assumption⟩) | (go_split_ands; exact ⟨by rw [cell_setOther _ _ mT]; assumption, by rw [cell_setOther _ _ mT]; assumption, by rw [cell_setOther _ _ mW]; assumption, by rw [cell_setOther _ _ mW]; assumption, by rw [cell_setOther _ _ mW]; assumption⟩))) (fun hHeld => ?_)
                  clear hK K
                  try simp only [Act.put, List.setIfInBounds_toArray, List.set_cons_zero, List.set_cons_succ]
                  refine wpAnyH_ready (rs := [16]) (by kernel_rfl) (by simp) ?_
                  refine AllReadyH.cons rfl (fun K hK => ?_) AllReadyH.nil
                  (refine step_app1 rfl _ _ _ (by rfl) rowE (by rfl) (World.ownsRow.drew ((HC.out.own.alloc _).alloc _)) ⟨wr.heap.size + 1, 0, none⟩ 1 1 [.int .i64 f1, .int .i64 x2, .int .i64 f3] (by rfl) (by rfl) (cells3 (by simp [go_sem]) (by simp [go_sem]) (by simp [go_sem])) (by simp [Value.oneCell']) (by decide) (by omega) (by unfold maxLen; omega) (by simp; omega) ?_; intro g cap w8 hown8 hg8; have kp := CW.keepc (((HC.out.alloc _).alloc _).drewN 1) hg8; have kp0 := kp.1; have kp1 := kp.2; clear kp)
                  refine hK.out _ _ (by (try dsimp only); (first | go_keep | (go_split_ands; exact ⟨by rw [hg8.cell_far _ (by simp; omega) nT]; assumption, by rw [hg8.cell_far _ (by simp; omega) nT]; assumption, by rw [hg8.cell_far _ (by simp; omega) nW]; assumption, by rw [hg8.cell_far _ (by simp; omega) nW]; assumption, by rw [hg8.cell_far _ (by simp; omega) nW]; assumption⟩) | (go_split_ands; exact ⟨by rw [cell_setOther _ _ mT]; assumption, by rw [cell_setOther _ _ mT]; assumption, by rw [cell_setOther _ _ mW]; assumption, by rw [cell_setOther _ _ mW]; assumption, by rw [cell_setOther _ _ mW]; assumption⟩))) (fun hHeld => ?_)
                  clear hK K
                  try simp only [Act.put, List.setIfInBounds_toArray]
                  refine wpAnyH_take (i := 17) (v := ?_) rfl (by kernel_rfl) (by kernel_rfl) (by kernel_rfl) (fun _ _ _ h => h) (Or.inl ⟨by rfl, ?_⟩) (by assumption) ?_
                  rotate_left
                  · intro w hSw
                    try dsimp only at hSw
                    go_simp
                    try with_reducible rfl
                  try simp only [Act.put]
                  refine wpAnyH_ready (rs := [18]) (by kernel_rfl) (by simp) ?_
                  refine AllReadyH.cons rfl (fun K hK => ?_) AllReadyH.nil
                  go_simp
                  refine hK.out _ _ (by (try dsimp only); (first | go_keep | (go_split_ands; exact ⟨by rw [hg8.cell_far _ (by simp; omega) nT]; assumption, by rw [hg8.cell_far _ (by simp; omega) nT]; assumption, by rw [hg8.cell_far _ (by simp; omega) nW]; assumption, by rw [hg8.cell_far _ (by simp; omega) nW]; assumption, by rw [hg8.cell_far _ (by simp; omega) nW]; assumption⟩) | (go_split_ands; exact ⟨by rw [cell_setOther _ _ mT]; assumption, by rw [cell_setOther _ _ mT]; assumption, by rw [cell_setOther _ _ mW]; assumption, by rw [cell_setOther _ _ mW]; assumption, by rw [cell_setOther _ _ mW]; assumption⟩))) (fun hHeld => ?_)
                  clear hK K
                  try simp only [Act.put, List.setIfInBounds_toArray, List.set_cons_zero, List.set_cons_succ]
                  refine wpAnyH_done (by kernel_rfl) ?_ _
                  all_goals
                    have h1 := CW.setEs (v' := .slice (some ⟨g, 0, none⟩) ((cutK s i).length + 1) cap) (es' := cutK s i ++ [(f1, x2, f3)]) (((HC.out.alloc _).alloc _).drewN 1) (by rw [List.length_append, List.flatMap_append]; exact hown8) hg8
                    rw [← HCK.out] at h1
                    have H1 := Lib.hid h1
                    clear h1 hown8 hg8 nO nT nW kp1 kp0 mT mW
                    go_wp2
                    go_roundw
                    case rel => exact ⟨i + 1, _, by omega, by go_num, H1.out⟩
                    case measure => simp [intOf]; omega
              · obtain rfl : i = s.es.length := by omega
                obtain ⟨o0, o1, o2, o3, of⟩ := hcw.o0
                obtain ⟨z0, z1, z2, z3, zf⟩ := hcw.rc
                have zf0 := zf 0; have zf1 := zf 1; have zf2 := zf 2; have zf3 := zf 3
                have hRl : w.heap.size < wr.heap.size := by have := hcw.ro; have := hcw.ot; omega
                have hOl : O < wr.heap.size := by have := hcw.ot; omega
                have hown := hcw.own
                obtain ⟨ga, gn, gc, hv⟩ : ∃ a m c, v = .slice a m c := by
                  rcases hown.2 with ⟨rfl, _⟩ | ⟨g, cap, cur, rfl, _⟩
                  · exact ⟨_, _, _, rfl⟩
                  · exact ⟨_, _, _, rfl⟩
                subst hv
                have hne : ¬ O = w.heap.size := by omega
                clear hown hcw of zf
                go_wp2
                have hot := HC.out.ot
                have hown : (World.ownsRow _ (TB + 1) 79 3 _ _ _) := HC.out.own
                rw [cutK_all] at hown
                refine bodyPost_ret (v := .tuple #[.agg #[.int .i64 (reachL s).length, .int .i64 s.lb, .int .i64 S0, .slice ga gn gc], .slice (some ⟨TB, 0, none⟩) k k]) (by simp [results, Tryz.results17, go_sem, z0, z1, z2, z3]) rfl ⟨.slice ga gn gc, TB, by rw [HS0.out]; rfl, ?_, ?_, by omega, ?_⟩
                · exact ownsRow_setCell_below (ownsRow_setCell_below (ownsRow_setCell_below (ownsRow_setCell_below hown (by show w.heap.size < TB + 1; omega) _) (by show w.heap.size < TB + 1; omega) _) (by show w.heap.size < TB + 1; omega) _) (by show w.heap.size < TB + 1; omega) _
                · exact (((HC.out.tt.setOther (by show TB ≠ w.heap.size; omega) _).setOther (by show TB ≠ w.heap.size; omega) _).setOther (by show TB ≠ w.heap.size; omega) _).setOther (by show TB ≠ w.heap.size; omega) _
                · exact (((HC.out.below.setCell (Nat.le_refl _) _).setCell (Nat.le_refl _) _).setCell (Nat.le_refl _) _).setCell (Nat.le_refl _) _
end Go.Proofs.YtkmljelgogcobaaGreatDoor

/-
  system.Graph.Degree; Reach of any graph.
  law7.alive: the small system that every law of chapter 7 asks first.
  The world in which a system's edges grow.
-/
import Derived.Test.YtkmljelgogcobaaGreatDoorGSortI
import Derived.Deep.DeepMust
import Derived.Test.YtkmljelgogcobaaGreatDoorGraphC
import Derived.Test.YtkmljelgogcobaaGreatDoorGMem
import Derived.Test.YtkmljelgogcobaaGreatDoorPl5
import Derived.Deep.Cut
namespace Go.Proofs.YtkmljelgogcobaaGreatDoor
open Go.RowKit Pl

theorem reach_any {w : World} {gb : Nat} {s : Lts} (h : GraphAt w gb s) :
    Calls Tryz.prog 16 #[.pointer (some ⟨gb, 0, none⟩)] w fun e w' => ∃ v, e = .returned v ∧ w'.ownsRow w.heap.size 3 1 v (reachL s).length ((reachL s).flatMap encI) ∧ Below w.heap.size w w' := by
  by_cases h0 : s.st = 0
  · refine (reach_nil h h0).mono ?_
    rintro e w' ⟨rfl, hB⟩
    rw [reachL_nil h0]
    exact ⟨_, rfl, World.ownsRow_nil _ _ _ _, hB⟩
  · exact reach_ok h h0

def degTo (s : Lts) : Nat → Int
  | 0 => 0
  | k + 1 => max (degTo s k) ((s.outs k).length)

theorem degTo_bd {s : Lts} (h : s.Right) : ∀ k, 0 ≤ degTo s k ∧ degTo s k ≤ 10000
  | 0 => by simp [degTo]
  | k + 1 => by
    have ih := degTo_bd h k
    have := outs_len h (k : Int)
    unfold degTo
    omega

set_option maxRecDepth 100000 in
theorem degree_any {w : World} {gb : Nat} {s : Lts} (h : GraphAt w gb s) :
    Calls Tryz.prog 46 #[.pointer (some ⟨gb, 0, none⟩)] w fun e w' => e = .returned (.int .i64 (degTo s s.st.toNat)) ∧ Below w.heap.size w w' := by
  have hst := h.right.st0
  obtain ⟨n, hn⟩ : ∃ n : Nat, s.st = (n : Int) := ⟨s.st.toNat, by omega⟩
  have hn1 : n ≤ 1000 := by omega
  have hgs := getStates_any h
  rw [hn] at hgs
  have hnn : s.st.toNat = n := by omega
  have HGS := Lib.hid hgs; have HH := Lib.hid h; have HNN := Lib.hid hnn
  rw [hnn]
  clear h hgs hn hst hnn
  go_enter Tryz.func46, Tryz.ntmps46
  go_wp2_with fail
  refine (HGS.out).mono ?_
  rintro e w1 ⟨rfl, hB1⟩
  have HB1 := Lib.hid hB1; clear hB1
  go_wp2_with fail
  go_loopw [3, 7] (fun v3 i wr => ∃ k : Nat, k ≤ n ∧ i = .int .i64 k ∧ v3 = .int .i64 (degTo s k) ∧ Below w.heap.size w wr) (fun _ i _ => n - (intOf i).toNat)
  case atStart => exact ⟨0, Nat.zero_le _, rfl, rfl, HB1.out⟩
  case round =>
    obtain ⟨k, hk, rfl, rfl, hB⟩ := hrel
    have HB := Lib.hid hB; clear hB HB1
    by_cases hlt : k < n
    · have hlen := outs_len HH.out.right (k : Int)
      have hd := degTo_bd HH.out.right k
      have hd0 := hd.1; have hd1 := hd.2
      clear hd
      obtain ⟨d, hdd⟩ : ∃ d, d = degTo s k := ⟨_, rfl⟩
      rw [← hdd] at hd0 hd1 ⊢
      have HD := Lib.hid hdd
      clear hdd
      have hne : degTo s (k + 1) = max d ((s.outs k).length) := by rw [HD.out]; rfl
      have HNE := Lib.hid hne; clear hne
      go_wp2_with fail
      refine (each_any HH.out HB.out k).mono ?_
      rintro e w2 ⟨⟨a2, c2, b2, off2, rfl, hc2, hm2, hss⟩, hB2⟩
      have hB3 := HB.out.trans (hB2.mono HB.out.size)
      have HB3 := Lib.hid hB3
      clear hss hB2 hB3
      go_wp2
      go_roundw
      case rel => exact ⟨k + 1, by omega, by go_num, by rw [HNE.out], HB3.out⟩
      case measure => simp [intOf]; omega
    · obtain rfl : k = n := by omega
      go_wp2
      go_ret
      exact ⟨rfl, HB.out⟩
end Go.Proofs.YtkmljelgogcobaaGreatDoor

namespace Go.Proofs.YtkmljelgogcobaaGreatDoor
open Go.RowKit Pl

namespace Pl
def aliveS : Lts := ⟨3, 2, 0, [(0, 1, 1), (1, 0, 0), (2, 1, 0)]⟩
theorem aliveS_right : aliveS.Right := ⟨by unfold HeadBad aliveS; simp, by decide⟩
theorem aliveS_norm : aliveS.norm = aliveS := by unfold Lts.norm aliveS; simp only; congr 1
theorem aliveS_out : aliveS.outs 0 = [(1, 1)] := by decide
theorem aliveS_ins : aliveS.ins 0 = [(0, 1), (1, 2)] := by decide
theorem aliveS_deg : degTo aliveS aliveS.st.toNat = 1 := by decide
theorem aliveS_reach : reachL aliveS = [0, 1] := by
  apply srt_ext stoI _ _ (reachL_srt _) (by unfold Srt; decide)
  intro x
  rw [mem_reachL aliveS_right (by decide)]
  constructor
  · intro h
    have := h (fun x => x = 0 ∨ x = 1) (Or.inl rfl) (by
      intro a l b ha he
      simp [aliveS] at he
      omega)
    simpa using this
  · intro h
    have h1 : Rch aliveS 1 := (Rch.start aliveS).step (a := 0) (l := 1) (by decide)
    simp at h
    rcases h with rfl | rfl
    · exact Rch.start aliveS
    · exact h1
end Pl

set_option maxRecDepth 100000 in
theorem alive_any {w : World} {p : Addr} (hG : GErr 0 p w) :
    Calls Tryz.prog 6 #[] w fun e w' => e = .returned (.bool true) ∧ Below w.heap.size w w' := by
  have hnew := fun (w : World) (a : Option Addr) (b c : Nat) (hG : GErr 0 p w) (hS : SlAt encE 3 w a b 0 aliveS.es) => new_ok (c := c) aliveS_right hG hS
  rw [aliveS_norm] at hnew
  have HG := Lib.hid hG; have HN := Lib.hid hnew
  clear hG hnew
  go_enter Tryz.func6, Tryz.ntmps6
  go_wp2_with fail
  have hS : SlAt encE 3 (w.alloc (.cells #[.int .i64 0, .int .i64 1, .int .i64 1, .int .i64 1, .int .i64 0, .int .i64 0, .int .i64 2, .int .i64 1, .int .i64 0] 79)) (some ⟨w.heap.size, 0, none⟩) w.heap.size 0 aliveS.es := by
    have h := World.ownsRow_lit (e := 79) (size := 3) (base := w.heap.size) w #[.int .i64 0, .int .i64 1, .int .i64 1, .int .i64 1, .int .i64 0, .int .i64 0, .int .i64 2, .int .i64 1, .int .i64 0] 3 (Nat.le_refl _) (by unfold maxLen; omega) rfl
    obtain ⟨a, c, b, hv, _, _, hs, _⟩ := slAt_own (xs := aliveS.es) lenE h
    simp only [Value.slice.injEq] at hv
    obtain ⟨rfl, _, _⟩ := hv
    have := hs.ad (by decide)
    simp at this
    subst this
    exact hs
  have hB0 := (Below.refl w.heap.size w).alloc (Nat.le_refl _) (.cells #[.int .i64 0, .int .i64 1, .int .i64 1, .int .i64 1, .int .i64 0, .int .i64 0, .int .i64 2, .int .i64 1, .int .i64 0] 79)
  refine (HN.out _ _ _ _ (HG.out.below hB0) hS).mono ?_
  rintro e w1 ⟨gb, rfl, hGr, hB1, hgb⟩
  have hB1' := hB0.trans (hB1.mono (by simp))
  have HGr := Lib.hid hGr; have HB1 := Lib.hid hB1'
  clear hB0 hS hB1 hB1' hGr hgb
  go_wp2_with fail
  have h0 := getOut_any HGr.out 0
  rw [aliveS_out] at h0
  refine h0.mono ?_
  rintro e w2 ⟨v, rfl, hown, hB2⟩
  obtain ⟨a2, c2, b2, rfl, _, _, _, _⟩ := slAt_own lenS hown
  clear hown
  have HB2 := Lib.hid hB2
  have HBB2 := Lib.hid (HB1.out.trans (hB2.mono HB1.out.size))
  clear h0 hB2
  go_wp2_with fail
  have h0 := getIn_any (HGr.out.below HB2.out) 0
  rw [aliveS_ins] at h0
  refine h0.mono ?_
  rintro e w3 ⟨v, rfl, hown, hB3⟩
  obtain ⟨a3, c3, b3, rfl, _, _, _, _⟩ := slAt_own lenS hown
  clear hown
  have HB3 := Lib.hid (HB2.out.trans (hB3.mono HB2.out.size))
  have HBB3 := Lib.hid (HBB2.out.trans (hB3.mono HBB2.out.size))
  clear h0 hB3
  go_wp2_with fail
  have h0 := reach_any (HGr.out.below HB3.out)
  rw [aliveS_reach] at h0
  refine h0.mono ?_
  rintro e w4 ⟨v, rfl, hown, hB4⟩
  obtain ⟨a4, c4, b4, rfl, _, _, _, _⟩ := slAt_own lenI hown
  have HB4 := Lib.hid (HB3.out.trans (hB4.mono HB3.out.size))
  have HBB4 := Lib.hid (HBB3.out.trans (hB4.mono HBB3.out.size))
  clear h0 hB4 hown
  go_wp2_with fail
  have h0 := degree_any (HGr.out.below HB4.out)
  rw [aliveS_deg] at h0
  refine h0.mono ?_
  rintro e w5 ⟨rfl, hB5⟩
  have HBB5 := Lib.hid (HBB4.out.trans (hB5.mono HBB4.out.size))
  clear h0 hB5
  go_wp2
  go_ret
  exact ⟨rfl, HBB5.out⟩
end Go.Proofs.YtkmljelgogcobaaGreatDoor

namespace Go.Proofs.YtkmljelgogcobaaGreatDoor
open Go.RowKit Pl

theorem belowStepT {w0 w w' : World} (h : Below w0.heap.size w0 w) (hB : Below w.heap.size w w') : Below w0.heap.size w0 w' := h.trans (hB.mono h.size)
/-- The world within Cut's last loop: the system at O, its edges the call's own. -/
structure KW (w5 wr : World) (O : Nat) (st lb s0 : Int) (v : Value) (es : List E) : Prop where
  oth : ∀ b, b < w5.heap.size → b ≠ O → wr.heap[b]? = w5.heap[b]?
  bel : Below O w5 wr
  oo : wr.heap[O]? = some (.cells #[.int .i64 st, .int .i64 lb, .int .i64 s0, v] 24 (0, 0))
  own : wr.ownsRow w5.heap.size 79 3 v es.length (es.flatMap encE)
  lt : O < w5.heap.size
section
variable {w5 wr w' : World} {O : Nat} {st lb s0 : Int} {v : Value} {es : List E}
theorem KW.call (h : KW w5 wr O st lb s0 v es) (hB : Below wr.heap.size wr w') : KW w5 w' O st lb s0 v es := by
  have hs := h.bel.size; have hl := h.lt
  exact ⟨fun b hb hne => by rw [hB.block _ (by omega)]; exact h.oth b hb hne, h.bel.trans (hB.mono (by omega)), by rw [hB.block _ (by omega)]; exact h.oo, own_below h.own hB, h.lt⟩
theorem KW.keepc {w1 : World} (h : KW w5 wr O st lb s0 v es) (hg : wr.grownBy w1 v.ownBlock) : w1.cell? ⟨O, 3, none⟩ = some v ∧ w1.frozen? ⟨O, 3, none⟩ = false := by
  have hs := h.bel.size; have hl := h.lt
  have := (hg.block O (by omega) (fun e => by have := (h.own.lt O e.symm).1; omega)).trans h.oo
  constructor <;> simp [World.cell?, World.frozen?, this]
theorem KW.setEs {w1 : World} {v' : Value} {es' : List E} (h : KW w5 wr O st lb s0 v es) (hown : w1.ownsRow w5.heap.size 79 3 v' es'.length (es'.flatMap encE)) (hg : wr.grownBy w1 v.ownBlock) :
    KW w5 (w1.setCell ⟨O, 3, none⟩ v') O st lb s0 v' es' := by
  have hs := h.bel.size; have hl := h.lt; have hgs := hg.size
  have hv : ∀ b, b < w5.heap.size → some b ≠ v.ownBlock := fun b hb e => by have := (h.own.lt b e.symm).1; omega
  refine ⟨fun b hb hne => ?_, (h.bel.grown hg (by omega) (fun k hk => by have := (h.own.lt k hk).1; omega)).setCell (Nat.le_refl _) _, ?_, ownsRow_setCell_below hown hl _, hl⟩
  · rw [Below.heap_setCell _ _ _ _ hne, hg.block b (by omega) (hv b hb)]
    exact h.oth b hb hne
  · exact heap_setCell_same _ O 3 _ _ _ ((hg.block O (by omega) (hv O hl)).trans h.oo)
theorem KW.cells (h : KW w5 wr O st lb s0 v es) : wr.cell? ⟨O, 0, none⟩ = some (.int .i64 st) ∧ wr.cell? ⟨O, 1, none⟩ = some (.int .i64 lb) ∧ wr.cell? ⟨O, 2, none⟩ = some (.int .i64 s0) ∧ wr.cell? ⟨O, 3, none⟩ = some v ∧ wr.frozen? ⟨O, 3, none⟩ = false := by
  have := h.oo
  refine ⟨?_, ?_, ?_, ?_, ?_⟩ <;> simp [World.cell?, World.frozen?, this]
end
end Go.Proofs.YtkmljelgogcobaaGreatDoor

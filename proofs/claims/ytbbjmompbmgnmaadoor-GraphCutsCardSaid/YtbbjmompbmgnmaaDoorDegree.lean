/-
  system.Graph.Degree; Reach of any graph.
-/
import Derived.Test.YtbbjmompbmgnmaaDoorReach
namespace Go.Proofs.YtbbjmompbmgnmaaDoor
open Go.RowKit Pl

theorem reach_any {w : World} {gb : Nat} {s : Lts} (h : GraphAt w gb s) :
    Calls Tryd.prog 27 #[.pointer (some ⟨gb, 0, none⟩)] w fun e w' => ∃ v, e = .returned v ∧ w'.ownsRow w.heap.size 3 1 v (reachL s).length ((reachL s).flatMap encI) ∧ Below w.heap.size w w' := by
  by_cases h0 : s.st = 0
  · refine (reach_nil h h0).mono ?_
    rintro e w' ⟨rfl, hB⟩
    rw [reachL_nil h0]
    exact ⟨_, rfl, World.ownsRow_nil _ _ _ _, hB⟩
  · exact reach_ok h h0

def degTo (s : Lts) : Nat → Int
  | 0 => 0
  | k + 1 => max (degTo s k) ((s.outs k).length)

theorem degTo_bd {s : Lts} (h : s.Right) : ∀ k, 0 ≤ degTo s k ∧ degTo s k ≤ 10000
  | 0 => by simp [degTo]
  | k + 1 => by
    have ih := degTo_bd h k
    have := outs_len h (k : Int)
    unfold degTo
    omega

set_option maxRecDepth 100000 in
theorem degree_any {w : World} {gb : Nat} {s : Lts} (h : GraphAt w gb s) :
    Calls Tryd.prog 26 #[.pointer (some ⟨gb, 0, none⟩)] w fun e w' => e = .returned (.int .i64 (degTo s s.st.toNat)) ∧ Below w.heap.size w w' := by
  have hst := h.right.st0
  obtain ⟨n, hn⟩ : ∃ n : Nat, s.st = (n : Int) := ⟨s.st.toNat, by omega⟩
  have hn1 : n ≤ 1000 := by omega
  have hgs := getStates_any h
  rw [hn] at hgs
  have hnn : s.st.toNat = n := by omega
  have HGS := Lib.hid hgs; have HH := Lib.hid h; have HNN := Lib.hid hnn
  rw [hnn]
  clear h hgs hn hst hnn
  go_enter Tryd.func26, Tryd.ntmps26
  go_wp2_with fail
  refine (HGS.out).mono ?_
  rintro e w1 ⟨rfl, hB1⟩
  have HB1 := Lib.hid hB1; clear hB1
  go_wp2_with fail
  go_loopw [3, 7] (fun v3 i wr => ∃ k : Nat, k ≤ n ∧ i = .int .i64 k ∧ v3 = .int .i64 (degTo s k) ∧ Below w.heap.size w wr) (fun _ i _ => n - (intOf i).toNat)
  case atStart => exact ⟨0, Nat.zero_le _, rfl, rfl, HB1.out⟩
  case round =>
    obtain ⟨k, hk, rfl, rfl, hB⟩ := hrel
    have HB := Lib.hid hB; clear hB HB1
    by_cases hlt : k < n
    · have hlen := outs_len HH.out.right (k : Int)
      have hd := degTo_bd HH.out.right k
      have hd0 := hd.1; have hd1 := hd.2
      clear hd
      obtain ⟨d, hdd⟩ : ∃ d, d = degTo s k := ⟨_, rfl⟩
      rw [← hdd] at hd0 hd1 ⊢
      have HD := Lib.hid hdd
      clear hdd
      have hne : degTo s (k + 1) = max d ((s.outs k).length) := by rw [HD.out]; rfl
      have HNE := Lib.hid hne; clear hne
      go_wp2_with fail
      refine (each_any HH.out HB.out k).mono ?_
      rintro e w2 ⟨⟨a2, c2, b2, off2, rfl, hc2, hm2, hss⟩, hB2⟩
      have hB3 := HB.out.trans (hB2.mono HB.out.size)
      have HB3 := Lib.hid hB3
      clear hss hB2 hB3
      go_wp2
      go_roundw
      case rel => exact ⟨k + 1, by omega, by go_num, by rw [HNE.out], HB3.out⟩
      case measure => simp [intOf]; omega
    · obtain rfl : k = n := by omega
      go_wp2
      go_ret
      exact ⟨rfl, HB.out⟩
end Go.Proofs.YtbbjmompbmgnmaaDoor

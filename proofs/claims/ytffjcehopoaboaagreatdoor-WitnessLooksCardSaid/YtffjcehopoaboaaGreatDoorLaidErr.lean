/-
  Lemmas.
-/
import Derived.Test.YtffjcehopoaboaaGreatDoorGCardBase
import Derived.Test.YtffjcehopoaboaaGreatDoorTold
import Derived.Stop.LaidTwo
namespace Go.Proofs.YtffjcehopoaboaaGreatDoor
open Go.ChangeShapes Go.WideShapes Go.ChangeAt Go.RowKit Go.Lib
theorem GErr.uniq {g : Nat} {p q : Addr} {W : World} (h : GErr g p W) (h' : GErr g q W) : p = q := by
  have h1 := h.cell
  rw [h'.cell] at h1
  simp only [Option.some.injEq, Value.iface.injEq, Value.pointer.injEq, true_and] at h1
  exact h1.symm
theorem sent_pair {n0 n1 : String} {g0 g1 : Nat} {d0 d1 : List UInt8} {W : World} (h : laidMet Tryz.prog [(n0, .iface "*errors.errorString" (.ptr (.agg [.lit (.string d0)]))), (n1, .iface "*errors.errorString" (.ptr (.agg [.lit (.string d1)])))] W)
    (hg0 : Tryz.prog.globalNamed n0 = some g0) (ht0 : (Tryz.prog.globals[g0]?).map (·.type) = some 47) (hg1 : Tryz.prog.globalNamed n1 = some g1) (ht1 : (Tryz.prog.globals[g1]?).map (·.type) = some 47) :
    ∃ a0 a1, GErr g0 a0 W ∧ GErr g1 a1 W ∧ a0 ≠ a1 ∧ (∃ c t, W.heap[a0.block]? = some (.cells c t (0, 0))) ∧ (∃ c t, W.heap[a1.block]? = some (.cells c t (0, 0))) := by
  obtain ⟨a0, a1, s0, s1, c0, c1, t0, t1, hv0, hv1, _, _, _, _, _, _, hne, hb0, hb1⟩ := laid_sentinels2 (g0 := g0) (g1 := g1) h hg0 ht0 hg1 ht1 Tryz.underlying47 row_es Tryz.underlying304 Tryz.underlying322 rfl rfl Tryz.underlying9 (by kernel_rfl) (by kernel_rfl)
  have hcell0 := World.var?_cell (g := g0) hg0 hv0 0
  have hcell0 : W.cell? ⟨g0, 0, none⟩ = some (.iface 304 (.pointer (some a0))) := by simpa using hcell0
  have hcell1 := World.var?_cell (g := g1) hg1 hv1 0
  have hcell1 : W.cell? ⟨g1, 0, none⟩ = some (.iface 304 (.pointer (some a1))) := by simpa using hcell1
  exact ⟨a0, a1, ⟨World.block_lt_of_cell? _ _ hcell0, hcell0⟩, ⟨World.block_lt_of_cell? _ _ hcell1, hcell1⟩, hne, ⟨c0, t0, hb0⟩, ⟨c1, t1, hb1⟩⟩
theorem sent_first {gk gj : Nat} {p : Addr} {W : World} (hk : GErr gk p W) (h : ∃ a0 a1, GErr gj a0 W ∧ GErr gk a1 W ∧ a0 ≠ a1 ∧ (∃ c t, W.heap[a0.block]? = some (.cells c t (0, 0))) ∧ (∃ c t, W.heap[a1.block]? = some (.cells c t (0, 0)))) : SentQ gj p W ∧ ∃ c t, W.heap[p.block]? = some (.cells c t (0, 0)) := by
  obtain ⟨a0, a1, h0, h1, hne, ⟨c, t, hb⟩, hc⟩ := h
  obtain rfl := hk.uniq h1
  exact ⟨⟨a0, c, t, h0, hne, hb⟩, hc⟩
end Go.Proofs.YtffjcehopoaboaaGreatDoor

/-
  The closure of system.New by which edges are put in order the other way: by To, Label, From.
-/
import Derived.Test.YtbbjmompbmgnmaaDoorSorted
namespace Go.Proofs.YtbbjmompbmgnmaaDoor
open Go.RowKit Pl Go.Sort Go.Shelf Go.Lib

def cmpB (a b : E) : Int := orL [cmpI a.2.2 b.2.2, cmpI a.2.1 b.2.1, cmpI a.1 b.1]

set_option maxRecDepth 100000 in
theorem orderB_any (x y : E) (w : World) : Calls Tryd.prog 51 #[.agg #[.int .i64 x.1, .int .i64 x.2.1, .int .i64 x.2.2], .agg #[.int .i64 y.1, .int .i64 y.2.1, .int .i64 y.2.2]] w fun e w' => e = .returned (.int .i64 (cmpB x y)) ∧ ∃ q os', w' = Go.Sort.grow (w.drewN q) os' := by
  unfold cmpB
  go_enter Tryd.func51, Tryd.ntmps51
  go_wp2
  go_region_held3 (fun w' => w'.cell? ⟨w.heap.size, 0, none⟩ = some (.int .i64 x.1) ∧ w'.cell? ⟨w.heap.size, 1, none⟩ = some (.int .i64 x.2.1) ∧ w'.cell? ⟨w.heap.size, 2, none⟩ = some (.int .i64 x.2.2) ∧ w'.cell? ⟨w.heap.size + 1, 0, none⟩ = some (.int .i64 y.1) ∧ w'.cell? ⟨w.heap.size + 1, 1, none⟩ = some (.int .i64 y.2.1) ∧ w'.cell? ⟨w.heap.size + 1, 2, none⟩ = some (.int .i64 y.2.2)) (simp [go_sem, World.cell?_alloc_past])
    (first
      | (go_at_call 53; refine (compare_any _ _ _).mono ?_; rintro e w' ⟨rfl, rfl⟩)
      | (go_at_call 52; refine (or_any (slAt_lit3 (x := cmpI x.2.2 y.2.2) (y := cmpI x.2.1 y.2.1) (z := cmpI x.1 y.1) (by simp [go_sem]) (by simp [go_sem]) (by simp [go_sem])) (by simp)).mono ?_; rintro e w' ⟨rfl, rfl⟩))
  go_wp2
  go_ret
  exact ⟨rfl, 1, _, by rw [Go.Sort.alloc_eq_grow, Go.Sort.alloc_eq_grow, Go.Sort.alloc_eq_grow, Go.Sort.grow_grow, Go.Sort.grow_grow]; rfl⟩

theorem ltOf_cmpB (x y : E) : ltOf cmpB x y = Pl.ltB x y := by
  rw [Bool.eq_iff_iff, ltB_iff]
  unfold ltOf cmpB orL orL orL orL cmpI
  simp only [decide_eq_true_eq]
  repeat' split
  all_goals omega

theorem swoB : SWO (ltOf cmpB) where
  irrefl x := by rw [ltOf_cmpB]; exact stoB.irrefl x
  trans x y z := by rw [ltOf_cmpB, ltOf_cmpB, ltOf_cmpB]; exact stoB.trans x y z
  ntrans x y z := by
    rw [ltOf_cmpB, ltOf_cmpB, ltOf_cmpB]
    simp only [Bool.eq_false_iff, ne_eq, ltB_iff]
    omega

/-- A list without repeats that is sorted with repeats is sorted. -/
theorem nf_of_perm {l ys : List E} (hl : Srt ltE l) (hp : ys.Perm l) (hs : ys.Pairwise (fun a b => ltOf cmpB b a = false)) : ys = nf Pl.ltB l := by
  refine eq_nf stoB ?_ (fun x => hp.mem_iff)
  have hnd : l.Nodup := hl.imp (fun {a b} h e => by subst e; rw [stoE.irrefl] at h; cases h)
  have hnd2 : ys.Nodup := hp.nodup_iff.2 hnd
  refine List.Pairwise.imp₂ ?_ hs hnd2
  intro a b h1 h2
  rw [ltOf_cmpB] at h1
  rcases stoB.total a b with h | h | h
  · exact h
  · exact absurd h h2
  · rw [h1] at h; cases h

end Go.Proofs.YtbbjmompbmgnmaaDoor

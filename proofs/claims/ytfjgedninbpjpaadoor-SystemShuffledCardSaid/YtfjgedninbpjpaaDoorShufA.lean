/-
  law7.SystemShuffled: the remainder is not negative. (Printed by wip/gen_shuffled.py.)
-/
import Derived.Test.YtfjgedninbpjpaaDoorShuf
namespace Go.Proofs.YtfjgedninbpjpaaDoor
open Go.RowKit Pl
set_option maxRecDepth 100000 in
set_option maxHeartbeats 8000000 in
theorem shuffledA {w : World} {p : Addr} (hE : Errs p w) {s : Lts} {b off c kn : Nat} {z r : Int} {x : E} (hS : SlAt encE 3 w (some ⟨b, off, none⟩) b off s.es) (hn1 : s.es.length ≤ 300) (hc : s.es.length ≤ c) (hcm : c ≤ maxLen)
    (hz : z.tmod (s.es.length : Int) = r) (hr : ¬ r < 0) (hk : r = (kn : Int)) (hkn : kn < s.es.length) (hx : s.es[kn]? = some x) :
    Calls Tryd.prog 12 #[.agg #[.int .i64 s.st, .int .i64 s.lb, .int .i64 s.s0, .slice (some ⟨b, off, none⟩) s.es.length c], .int .i64 z] w fun e w' => e = .returned (.bool true) ∧ Below w.heap.size w w' := by
  obtain ⟨nx, ny, nz, L, cd, hN⟩ := NO.ex s
  have hT : NO ⟨s.st, s.lb, s.s0, s.es.drop kn ++ s.es.take kn ++ [x]⟩ (nx, ny, nz, L, cd) := by
    obtain ⟨a1, a2, a3, a4, a5, h⟩ := NO.ex ⟨s.st, s.lb, s.s0, s.es.drop kn ++ s.es.take kn ++ [x]⟩
    have q := hN.same h (norm_of_mem rfl rfl rfl (mem_shuffle hx)) (right_of_mem rfl rfl rfl (mem_shuffle hx) (by omega) (by simp; omega))
    rw [q] at h; exact h
  have hLl := hN.len (by omega)
  have n1 : ∀ W, Errs p W → SlAt encE 3 W (some ⟨b, off, none⟩) b off s.es → _ := fun W h1 h2 => normal_any (c := c) (w := W) hN h1 h2
  have n2 : ∀ W g m cap, m = (s.es.drop kn ++ s.es.take kn ++ [x]).length → Errs p W → SlAt encE 3 W (some ⟨g, 0, none⟩) g 0 (s.es.drop kn ++ s.es.take kn ++ [x]) → Calls Tryd.prog 47 #[.agg #[.int .i64 s.st, .int .i64 s.lb, .int .i64 s.s0, .slice (some ⟨g, 0, none⟩) m cap]] W fun e w' =>
      ∃ a1 c1 b1 o1 v, e = .returned (.tuple #[.agg #[.int .i64 nx, .int .i64 ny, .int .i64 nz, .slice a1 L.length c1], v]) ∧ SlAt encE 3 w' a1 b1 o1 L ∧ Below W.heap.size W w' ∧
        ∀ w2, Below w'.heap.size w' w2 → Calls Tryd.prog 48 #[v] w2 fun e w3 => e = .returned (.int .i64 cd) ∧ w2 = w3 := by
    intro W g m cap hm h1 h2
    subst hm
    exact normal_any (c := cap) (w := W) hT h1 h2
  have hss : ∀ (W : World) a1 b1 o1 c1 a2 b2 o2 c2, SlAt encE 3 W a1 b1 o1 L → SlAt encE 3 W a2 b2 o2 L → _ := fun W a1 b1 o1 c1 a2 b2 o2 c2 h1 h2 => sameSystem_yes (w := W) nx ny nz (c1 := c1) (c2 := c2) (a1 := a1) (b1 := b1) (o1 := o1) (a2 := a2) (b2 := b2) (o2 := o2) h1 h2 hLl
  have hlen : (s.es.drop kn ++ s.es.take kn ++ [x]).length = s.es.length + 1 := by simp; omega
  have hx1 := hS.cell kn x hx 0 (.int .i64 x.1) rfl
  have hx2 := hS.cell kn x hx 1 (.int .i64 x.2.1) rfl
  have hx3 := hS.cell kn x hx 2 (.int .i64 x.2.2) rfl
  have hbl := hS.lt (by omega)
  obtain ⟨x1, x2, x3⟩ := x
  simp only [Nat.add_zero] at hx1 hx2 hx3
  have hfl := slAt_flat lenE hS
  have hd1 : ∀ j u, ((s.es.drop kn).flatMap encE)[j]? = some u → w.cell? ((⟨b, off + kn * 3, none⟩ : Addr).add j) = some u := slAt_flat lenE (xs := s.es.drop kn) (a := some ⟨b, off + kn * 3, none⟩) (b := b) (off := off + kn * 3) ⟨fun _ => rfl, fun _ => hbl, fun i y hy j u hu => by
    rw [List.getElem?_drop] at hy
    have := hS.cell (kn + i) y hy j u hu
    rw [show off + kn * 3 + i * 3 + j = off + (kn + i) * 3 + j by omega]
    exact this⟩
  have hd2 : ∀ j u, ((s.es.take kn).flatMap encE)[j]? = some u → w.cell? ((⟨b, off, none⟩ : Addr).add j) = some u := slAt_flat lenE (xs := s.es.take kn) (a := some ⟨b, off, none⟩) (b := b) (off := off) ⟨fun _ => rfl, fun _ => hbl, fun i y hy j u hu => hS.cell i y (by
    rw [List.getElem?_take] at hy
    split at hy
    · exact hy
    · cases hy) j u hu⟩
  have hl1 : (s.es.drop kn).length = s.es.length - kn := by simp
  have hl2 : (s.es.take kn).length = kn := by simp; omega
  obtain ⟨n, hn⟩ : ∃ n, n = s.es.length := ⟨_, rfl⟩
  rw [← hn] at hn1 hc hz hkn hlen hl1 ⊢
  rw [← hn] at n1
  have hi : ¬ (300 : Int) < (n : Int) := by omega
  have hi0 : ((n : Int) == 0) = false := by simp; omega
  have hi1 : ¬ (n : Int) = 0 := by omega
  have hi2 : ¬ n = 0 := by omega
  have q1 : IntKind.i64.wrap r = r := IntWalk.i64_in _ (by omega)
  have q2 : IntKind.i64.wrap (kn : Int) = (kn : Int) := IntWalk.i64_in _ (by omega)
  have N1 := Lib.hid n1; have N2 := Lib.hid n2; have HSS := Lib.hid hss; have HD1 := Lib.hid hd1; have HD2 := Lib.hid hd2; have HL1 := Lib.hid hl1; have HL2 := Lib.hid hl2
  have HE := Lib.hid hE; have HS := Lib.hid hS; have HLEN := Lib.hid hlen; have HNN := Lib.hid hn; have HCM := Lib.hid hcm
  have X1 := Lib.hid hx1; have X2 := Lib.hid hx2; have X3 := Lib.hid hx3; have HBL := Lib.hid hbl
  clear hN hT hLl n1 n2 hss hx1 hx2 hx3 hx hfl hd1 hd2 hl1 hl2 hE hS hlen hn hcm hbl
  have c0 : ¬ c = 0 := by omega
  have c1 : ¬ c = kn := by omega
  have k1 : (0 : Int) ≤ (kn : Int) := by omega
  have k2 : (kn : Int) ≤ (n : Int) := by omega
  have k3 : (kn : Int) ≤ (c : Int) := by omega
  have k4 : (kn : Int) < (n : Int) := by omega
  have k5 : kn ≤ n := by omega
  have k6 : kn ≤ c := by omega
  have k7 : n ≤ c := hc
  subst hk
  go_enter Tryd.func12, Tryd.ntmps12
  go_wp2_with fail
  obtain ⟨w0, hw0⟩ : ∃ w0, w0 = (w.alloc (.cells #[.int .i64 s.st, .int .i64 s.lb, .int .i64 s.s0, .slice (some ⟨b, off, none⟩) n c] 24)).alloc (.cells #[.int .i64 s.st, .int .i64 s.lb, .int .i64 s.s0, .slice (some ⟨b, off, none⟩) n c] 24) := ⟨_, rfl⟩
  have hs0 : w0.heap.size = w.heap.size + 2 := by rw [hw0]; simp
  have hb0 : Below w.heap.size w w0 := by rw [hw0]; exact ((Below.refl _ _).alloc (Nat.le_refl _) _).alloc (by simp) _
  have hbx : w0.heap[w.heap.size]? = some (.cells #[.int .i64 s.st, .int .i64 s.lb, .int .i64 s.s0, .slice (some ⟨b, off, none⟩) n c] 24 (0, 0)) := by
    rw [hw0, Below.heap_alloc _ _ _ (by simp), heap_alloc_new]
  have hby : w0.heap[w.heap.size + 1]? = some (.cells #[.int .i64 s.st, .int .i64 s.lb, .int .i64 s.s0, .slice (some ⟨b, off, none⟩) n c] 24 (0, 0)) := by
    rw [hw0]; exact heap_alloc_at _ _ _ (by simp)
  rw [← hw0]
  clear hw0
  have hcl : ∀ W, Below (w.heap.size + 1) w0 W → ∀ (q : Addr) u, q.block = b → w.cell? q = some u → W.cell? q = some u := fun W h q u hq hu => by
    rw [h.cell (p := q) (by rw [hq]; have := HBL.out; omega), hb0.cell (p := q) (by rw [hq]; exact HBL.out)]
    exact hu
  have hK : ∀ W, Below (w.heap.size + 1) w0 W → Below (w.heap.size + 1) w0 W ∧ W.cell? ⟨w.heap.size, 3, none⟩ = some (.slice (some ⟨b, off, none⟩) n c) ∧ W.cell? ⟨b, off + kn * 3, none⟩ = some (.int .i64 x1) ∧ W.cell? ⟨b, off + kn * 3 + 1, none⟩ = some (.int .i64 x2) ∧ W.cell? ⟨b, off + kn * 3 + 2, none⟩ = some (.int .i64 x3) := fun W h => by
    refine ⟨h, ?_, hcl W h _ _ rfl X1.out, hcl W h _ _ rfl X2.out, hcl W h _ _ rfl X3.out⟩
    rw [h.cell (p := ⟨w.heap.size, 3, none⟩) (by show w.heap.size < w.heap.size + 1; omega)]
    simp [World.cell?, hbx]
  have hm : ∀ W, Below w0.heap.size w0 W → Below (w.heap.size + 1) w0 W := fun W h => h.mono (by omega)
  have hm1 : ∀ out v W, GW (w0.drew.alloc (.cells #[.int .i64 x1, .int .i64 x2, .int .i64 x3] 35)) W out v → Below (w.heap.size + 1) w0 W := fun _ _ _ h => ((Below.refl (w.heap.size + 1) w0).drew.alloc (by show w.heap.size + 1 ≤ w0.heap.size; omega) _).trans (h.bel.mono (by simp; omega))
  have hd1 : ∀ W, Below (w.heap.size + 1) w0 W → ∀ j u, ((s.es.drop kn).flatMap encE)[j]? = some u → W.cell? ((⟨b, off + kn * 3, none⟩ : Addr).add j) = some u := fun W h j u hu => hcl W h _ _ (by unfold Addr.add; split <;> rfl) (HD1.out j u hu)
  have hd2 : ∀ W, Below (w.heap.size + 1) w0 W → ∀ j u, ((s.es.take kn).flatMap encE)[j]? = some u → W.cell? ((⟨b, off, none⟩ : Addr).add j) = some u := fun W h j u hu => hcl W h _ _ (by unfold Addr.add; split <;> rfl) (HD2.out j u hu)
  have hT : ∀ W, Below (w.heap.size + 2) w0 W → W.cell? ⟨w.heap.size + 1, 3, none⟩ = some (.slice (some ⟨b, off, none⟩) n c) ∧ W.frozen? ⟨w.heap.size + 1, 3, none⟩ = false := fun W h => by
    have := h.block (w.heap.size + 1) (by omega)
    rw [hby] at this
    exact ⟨by simp [World.cell?, this], by simp [World.frozen?, this]⟩
  have hes : 0 < (s.es.drop kn ++ s.es.take kn ++ [(x1, x2, x3)]).length := by rw [List.length_append, List.length_singleton]; omega
  have hbe := fun (W w2 : World) (g m cap : Nat) (h2 : Below w0.heap.size w0 w2) (hg : GW w2 W (s.es.drop kn ++ s.es.take kn ++ [(x1, x2, x3)]) (.slice (some ⟨g, 0, none⟩) m cap)) => behind (s := s) rfl hs0 hb0 hbx hby h2 hg hes
  have HBE := Lib.hid hbe; have HK := Lib.hid hK; have HM := Lib.hid hm; have HM1 := Lib.hid hm1; have ND1 := Lib.hid hd1; have ND2 := Lib.hid hd2; have HT := Lib.hid hT; have HS0 := Lib.hid hs0
  have B0 := Lib.hid (hm _ ((Below.refl w0.heap.size w0).drew))
  have G0 := Lib.hid (GW.nil (w2 := w0) (wr := w0.drew) (Below.refl _ _).drew)
  clear hs0 hb0 hbx hby hcl hK hm hm1 hd1 hd2 hT hes hbe HD1 HD2 X1 X2 X3 HBL
  refine wp_region_held_drew (S := fun w' => Below (w.heap.size + 1) w0 w' ∧ w'.cell? ⟨w.heap.size, 3, none⟩ = some (.slice (some ⟨b, off, none⟩) n c) ∧ w'.cell? ⟨b, off + kn * 3, none⟩ = some (.int .i64 x1) ∧ w'.cell? ⟨b, off + kn * 3 + 1, none⟩ = some (.int .i64 x2) ∧ w'.cell? ⟨b, off + kn * 3 + 2, none⟩ = some (.int .i64 x3)) (by kernel_rfl) (HK.out _ B0.out) (fun hHeld => ?_)
  refine wpAnyH_take (i := 0) (v := ?_) rfl (by kernel_rfl) (by kernel_rfl) (by kernel_rfl) (fun _ _ _ h => h) (Or.inl ⟨by rfl, ?_⟩) (by assumption) ?_
  rotate_left
  · intro w hSw
    try dsimp only at hSw
    go_simp
    try with_reducible rfl
  try simp only [List.getElem_toArray, List.getElem_cons_zero, Act.put, List.setIfInBounds_toArray, List.set_cons_zero, List.set_cons_succ]
  refine wpAnyH_take (i := 1) (v := ?_) rfl (by kernel_rfl) (by kernel_rfl) (by kernel_rfl) (fun _ _ _ h => h) (Or.inl ⟨by rfl, ?_⟩) (by assumption) ?_
  rotate_left
  · intro w hSw
    try dsimp only at hSw
    go_simp
    try with_reducible rfl
  try simp only [List.getElem_toArray, List.getElem_cons_zero, List.getElem_cons_succ, Act.put, List.setIfInBounds_toArray, List.set_cons_zero, List.set_cons_succ]
  refine wpAnyH_take (i := 2) (v := ?_) rfl (by kernel_rfl) (by kernel_rfl) (by kernel_rfl) (fun _ _ _ h => h) (Or.inl ⟨by rfl, ?_⟩) (by assumption) ?_
  rotate_left
  · intro w hSw
    try dsimp only at hSw
    go_simp
    try with_reducible rfl
  try simp only [List.getElem_toArray, List.getElem_cons_zero, List.getElem_cons_succ, Act.put, List.setIfInBounds_toArray, List.set_cons_zero, List.set_cons_succ]
  refine wpAnyH_take (i := 3) (v := ?_) rfl (by kernel_rfl) (by kernel_rfl) (by kernel_rfl) (fun _ _ _ h => h) (Or.inl ⟨by rfl, ?_⟩) (by assumption) ?_
  rotate_left
  · intro w hSw
    try dsimp only at hSw
    go_simp
    try with_reducible rfl
  try simp only [List.getElem_toArray, List.getElem_cons_zero, List.getElem_cons_succ, Act.put, List.setIfInBounds_toArray, List.set_cons_zero, List.set_cons_succ]
  refine wpAnyH_take (i := 5) (v := ?_) rfl (by kernel_rfl) (by kernel_rfl) (by kernel_rfl) (fun _ _ _ h => h) (Or.inl ⟨by rfl, ?_⟩) (by assumption) ?_
  rotate_left
  · intro w hSw
    try dsimp only at hSw
    go_simp
    try with_reducible rfl
  try simp only [List.getElem_toArray, List.getElem_cons_zero, List.getElem_cons_succ, Act.put, List.setIfInBounds_toArray, List.set_cons_zero, List.set_cons_succ]
  refine wpAnyH_take (i := 6) (v := ?_) rfl (by kernel_rfl) (by kernel_rfl) (by kernel_rfl) (fun _ _ _ h => h) (Or.inl ⟨by rfl, ?_⟩) (by assumption) ?_
  rotate_left
  · intro w hSw
    try dsimp only at hSw
    go_simp
    try with_reducible rfl
  try simp only [List.getElem_toArray, List.getElem_cons_zero, List.getElem_cons_succ, Act.put, List.setIfInBounds_toArray, List.set_cons_zero, List.set_cons_succ]
  refine wpAnyH_take (i := 7) (v := ?_) rfl (by kernel_rfl) (by kernel_rfl) (by kernel_rfl) (fun _ _ _ h => h) (Or.inl ⟨by rfl, ?_⟩) (by assumption) ?_
  rotate_left
  · intro w hSw
    try dsimp only at hSw
    go_simp
    try with_reducible rfl
  try simp only [List.getElem_toArray, List.getElem_cons_zero, List.getElem_cons_succ, Act.put, List.setIfInBounds_toArray, List.set_cons_zero, List.set_cons_succ]
  refine wpAnyH_take (i := 8) (v := ?_) rfl (by kernel_rfl) (by kernel_rfl) (by kernel_rfl) (fun _ _ _ h => h) (Or.inl ⟨by rfl, ?_⟩) (by assumption) ?_
  rotate_left
  · intro w hSw
    try dsimp only at hSw
    go_simp
    try with_reducible rfl
  try simp only [List.getElem_toArray, List.getElem_cons_zero, List.getElem_cons_succ, Act.put, List.setIfInBounds_toArray, List.set_cons_zero, List.set_cons_succ]
  refine wpAnyH_take (i := 10) (v := ?_) rfl (by kernel_rfl) (by kernel_rfl) (by kernel_rfl) (fun _ _ _ h => h) (Or.inl ⟨by rfl, ?_⟩) (by assumption) ?_
  rotate_left
  · intro w hSw
    try dsimp only at hSw
    go_simp
    try with_reducible rfl
  try simp only [List.getElem_toArray, List.getElem_cons_zero, List.getElem_cons_succ, Act.put, List.setIfInBounds_toArray, List.set_cons_zero, List.set_cons_succ]
  refine wpAnyH_take (i := 11) (v := ?_) rfl (by kernel_rfl) (by kernel_rfl) (by kernel_rfl) (fun _ _ _ h => h) (Or.inl ⟨by rfl, ?_⟩) (by assumption) ?_
  rotate_left
  · intro w hSw
    try dsimp only at hSw
    go_simp
    try with_reducible rfl
  try simp only [List.getElem_toArray, List.getElem_cons_zero, List.getElem_cons_succ, Act.put, List.setIfInBounds_toArray, List.set_cons_zero, List.set_cons_succ]
  refine wpAnyH_take (i := 12) (v := ?_) rfl (by kernel_rfl) (by kernel_rfl) (by kernel_rfl) (fun _ _ _ h => h) (Or.inl ⟨by rfl, ?_⟩) (by assumption) ?_
  rotate_left
  · intro w hSw
    try dsimp only at hSw
    go_simp
    try with_reducible rfl
  try simp only [List.getElem_toArray, List.getElem_cons_zero, List.getElem_cons_succ, Act.put, List.setIfInBounds_toArray, List.set_cons_zero, List.set_cons_succ]
  refine wpAnyH_take (i := 13) (v := ?_) rfl (by kernel_rfl) (by kernel_rfl) (by kernel_rfl) (fun _ _ _ h => h) (Or.inl ⟨by rfl, ?_⟩) (by assumption) ?_
  rotate_left
  · intro w hSw
    try dsimp only at hSw
    go_simp
    try with_reducible rfl
  try simp only [List.getElem_toArray, List.getElem_cons_zero, List.getElem_cons_succ, Act.put, List.setIfInBounds_toArray, List.set_cons_zero, List.set_cons_succ]
  refine wpAnyH_take (i := 14) (v := ?_) rfl (by kernel_rfl) (by kernel_rfl) (by kernel_rfl) (fun _ _ _ h => h) (Or.inl ⟨by rfl, ?_⟩) (by assumption) ?_
  rotate_left
  · intro w hSw
    try dsimp only at hSw
    go_simp
    try with_reducible rfl
  try simp only [List.getElem_toArray, List.getElem_cons_zero, List.getElem_cons_succ, Act.put, List.setIfInBounds_toArray, List.set_cons_zero, List.set_cons_succ]
  refine wpAnyH_ready (rs := [4, 15]) (by kernel_rfl) (by simp) ?_
  refine AllReadyH.cons rfl (fun K hK => ?_) (AllReadyH.cons rfl (fun K hK => ?_) AllReadyH.nil)
  ·
    refine step_gw (by rfl) _ _ (by rfl) (by rfl) G0.out ⟨b, off + kn * 3, none⟩ (n - kn) (c - kn) (s.es.drop kn) (by rfl) HL1.out (ND1.out _ (B0.out)) (n - kn) (by simp) (by omega) (by omega) ?_
    intro g4 cap4 W4 hg4 hk4 hl4
    rw [List.nil_append] at hg4
    refine hK.out _ _ (HK.out _ (HM.out _ hg4.bel)) (fun hHeld => ?_)
    clear hK K
    try simp only [List.getElem_toArray, List.getElem_cons_zero, List.getElem_cons_succ, Act.put, List.setIfInBounds_toArray, List.set_cons_zero, List.set_cons_succ]
    refine wpAnyH_ready (rs := [9, 15]) (by kernel_rfl) (by simp) ?_
    refine AllReadyH.cons rfl (fun K hK => ?_) (AllReadyH.cons rfl (fun K hK => ?_) AllReadyH.nil)
    ·
      refine step_gw (by rfl) _ _ (by rfl) (by rfl) hg4 ⟨b, off, none⟩ kn c (s.es.take kn) (by rfl) HL2.out (ND2.out _ (HM.out _ hg4.bel)) n (by rw [HL1.out]; omega) (by omega) (by omega) ?_
      intro g9 cap9 W9 hg9 hk9 hl9
      refine hK.out _ _ (HK.out _ (HM.out _ hg9.bel)) (fun hHeld => ?_)
      clear hK K
      try simp only [List.getElem_toArray, List.getElem_cons_zero, List.getElem_cons_succ, Act.put, List.setIfInBounds_toArray, List.set_cons_zero, List.set_cons_succ]
      refine wpAnyH_ready (rs := [15]) (by kernel_rfl) (by simp) ?_
      refine AllReadyH.cons rfl (fun K hK => ?_) AllReadyH.nil
      go_simp
      refine hK.out _ _ (HK.out _ (HM.out _ (hg9.alloc _).bel)) (fun hHeld => ?_)
      clear hK K
      try simp only [List.getElem_toArray, List.getElem_cons_zero, List.getElem_cons_succ, Act.put, List.setIfInBounds_toArray, List.set_cons_zero, List.set_cons_succ]
      refine wpAnyH_ready (rs := [16]) (by kernel_rfl) (by simp) ?_
      refine AllReadyH.cons rfl (fun K hK => ?_) AllReadyH.nil
      refine step_gw (by rfl) _ _ (by rfl) (by rfl) (hg9.alloc _) ⟨W9.heap.size, 0, none⟩ 1 1 [(x1, x2, x3)] (by rfl) rfl (lit3 (x := (x1, x2, x3)) (heap_alloc_at _ _ _ rfl)) (n + 1) (by rw [List.length_append, HL1.out, HL2.out]; omega) (by omega) (by omega) ?_
      intro gT capT W hgT hkT hlT
      refine hK.out _ _ (HK.out _ (HM.out _ hgT.bel)) (fun hHeld => ?_)
      clear hK K
      try simp only [List.getElem_toArray, List.getElem_cons_zero, List.getElem_cons_succ, Act.put, List.setIfInBounds_toArray, List.set_cons_zero, List.set_cons_succ]
      refine wpAnyH_take (i := 17) (v := ?_) rfl (by kernel_rfl) (by kernel_rfl) (by kernel_rfl) (fun _ _ _ h => h) (Or.inl ⟨by rfl, ?_⟩) (by assumption) ?_
      rotate_left
      · intro w hSw
        try dsimp only at hSw
        go_simp
        try with_reducible rfl
      try simp only [List.getElem_toArray, List.getElem_cons_zero, List.getElem_cons_succ, Act.put, List.setIfInBounds_toArray, List.set_cons_zero, List.set_cons_succ]
      refine wpAnyH_ready (rs := [18]) (by kernel_rfl) (by simp) ?_
      refine AllReadyH.cons rfl (fun K hK => ?_) AllReadyH.nil
      obtain ⟨hcT, hfT⟩ := HT.out _ (hgT.bel.mono (by have := HS0.out; omega))
      have HGT := Lib.hid hgT
      clear hgT
      go_simp
      refine hK.out _ _ (HK.out _ ((HM.out _ HGT.out.bel).setCell (by show w.heap.size + 1 ≤ w.heap.size + 1; omega) _)) (fun hHeld => ?_)
      clear hK K
      try simp only [List.getElem_toArray, List.getElem_cons_zero, List.getElem_cons_succ, Act.put, List.setIfInBounds_toArray, List.set_cons_zero, List.set_cons_succ]
      refine wpAnyH_done (by kernel_rfl) ?_ _
      obtain ⟨hbW, hxW, hyW, hsW⟩ := HBE.out _ _ _ _ _ (Below.refl _ _) HGT.out
      clear hcT hfT
      generalize World.setCell _ _ _ = w1 at hbW hxW hyW hsW ⊢
      have HW := Lib.hid hbW; have HX := Lib.hid hxW; have HY := Lib.hid hyW; have HSW := Lib.hid hsW
      have t0 : w1.cell? ⟨w.heap.size, 0, none⟩ = some (.int .i64 s.st) := by simp [World.cell?, hxW]
      have t1 : w1.cell? ⟨w.heap.size, 1, none⟩ = some (.int .i64 s.lb) := by simp [World.cell?, hxW]
      have t2 : w1.cell? ⟨w.heap.size, 2, none⟩ = some (.int .i64 s.s0) := by simp [World.cell?, hxW]
      have t3 : w1.cell? ⟨w.heap.size, 3, none⟩ = some (.slice (some ⟨b, off, none⟩) n c) := by simp [World.cell?, hxW]
      have hE1 := HE.out.below hbW
      have hS1 := HS.out.below hbW (Nat.le_refl _)
      have HE1 := Lib.hid hE1; have HS1 := Lib.hid hS1
      clear hbW hxW hyW hsW hE1 hS1
      go_wp2_with fail
      refine (N1.out _ HE1.out HS1.out).mono ?_
      rintro e w2 ⟨a1, d1, b1, o1, v1, rfl, hs1, hB2, he1⟩
      obtain ⟨o7, ho7⟩ : ∃ o7 : Obj, o7 = .cells #[.int .i64 nx, .int .i64 ny, .int .i64 nz, .slice a1 L.length d1] 24 := ⟨_, rfl⟩
      have hA2 : Below w1.heap.size w1 (w2.alloc o7) := hB2.alloc hB2.size o7
      have hy2 : (w2.alloc o7).heap[w.heap.size + 1]? = some (.cells #[.int .i64 s.st, .int .i64 s.lb, .int .i64 s.s0, .slice (some ⟨gT, 0, none⟩) (n + 1) capT] 24 (0, 0)) := by
        rw [hA2.block _ (Array.getElem?_eq_some_iff.1 HY.out).1]; exact HY.out
      have hk7 : (w2.alloc o7).heap[w2.heap.size]? = some (.cells #[.int .i64 nx, .int .i64 ny, .int .i64 nz, .slice a1 L.length d1] 24 (0, 0)) := by rw [heap_alloc_new, ho7]
      rw [ho7] at hA2 hy2 hk7
      have t0 : (w2.alloc (.cells #[.int .i64 nx, .int .i64 ny, .int .i64 nz, .slice a1 L.length d1] 24)).cell? ⟨w.heap.size + 1, 0, none⟩ = some (.int .i64 s.st) := by simp only [World.cell?, hy2]; rfl
      have t1 : (w2.alloc (.cells #[.int .i64 nx, .int .i64 ny, .int .i64 nz, .slice a1 L.length d1] 24)).cell? ⟨w.heap.size + 1, 1, none⟩ = some (.int .i64 s.lb) := by simp only [World.cell?, hy2]; rfl
      have t2 : (w2.alloc (.cells #[.int .i64 nx, .int .i64 ny, .int .i64 nz, .slice a1 L.length d1] 24)).cell? ⟨w.heap.size + 1, 2, none⟩ = some (.int .i64 s.s0) := by simp only [World.cell?, hy2]; rfl
      have t3 : (w2.alloc (.cells #[.int .i64 nx, .int .i64 ny, .int .i64 nz, .slice a1 L.length d1] 24)).cell? ⟨w.heap.size + 1, 3, none⟩ = some (.slice (some ⟨gT, 0, none⟩) (n + 1) capT) := by simp only [World.cell?, hy2]; rfl
      have HA2 := Lib.hid hA2; have HK7 := Lib.hid hk7; have HE2 := Lib.hid (HE1.out.below hA2)
      have HST := Lib.hid (HSW.out.below hA2 (Nat.le_refl _))
      have H1 := Lib.hid (hs1.below ((Below.refl _ _).alloc (Nat.le_refl _) (.cells #[.int .i64 nx, .int .i64 ny, .int .i64 nz, .slice a1 L.length d1] 24)) (Nat.le_refl _))
      have HC1 : RowKit.Hid (∀ w3, Below (w2.alloc (.cells #[.int .i64 nx, .int .i64 ny, .int .i64 nz, .slice a1 L.length d1] 24)).heap.size (w2.alloc (.cells #[.int .i64 nx, .int .i64 ny, .int .i64 nz, .slice a1 L.length d1] 24)) w3 → Calls Tryd.prog 48 #[v1] w3 fun e w4 => e = .returned (.int .i64 cd) ∧ w3 = w4) :=
        Lib.hid fun w3 h3 => he1 w3 (((Below.refl _ _).alloc (Nat.le_refl _) _).trans (h3.mono (by simp)))
      clear ho7 hA2 hy2 hk7 hs1 hB2 he1 HS1 HX HY HSW
      go_wp2_with fail
      refine (N2.out _ gT (n + 1) capT HLEN.out.symm HE2.out HST.out).mono ?_
      rintro e w3 ⟨a2, d2, b2, o2, v2, rfl, hs2, hB3, he2⟩
      have hA3 : Below w3.heap.size w3 (w3.alloc (.cells #[.int .i64 nx, .int .i64 ny, .int .i64 nz, .slice a2 L.length d2] 24)) := (Below.refl _ _).alloc (Nat.le_refl _) _
      have hA4 := hB3.trans (hA3.mono hB3.size)
      have hri : RI w (w3.alloc (.cells #[.int .i64 nx, .int .i64 ny, .int .i64 nz, .slice a2 L.length d2] 24)) p w2.heap.size w3.heap.size nx ny nz L cd a1 d1 b1 o1 v1 a2 d2 b2 o2 v2 :=
        ⟨(HW.out.trans (HA2.out.mono HW.out.size)).trans (hA4.mono (HW.out.trans (HA2.out.mono HW.out.size)).size), (HE2.out.below hA4).sys, by rw [hA4.block _ (Array.getElem?_eq_some_iff.1 HK7.out).1]; exact HK7.out, heap_alloc_new _ _, H1.out.below hA4 (Nat.le_refl _), hs2.below hA3 (Nat.le_refl _),
          fun w5 h5 => HC1.out w5 (hA4.trans (h5.mono hA4.size)), fun w5 h5 => he2 w5 (hA3.trans (h5.mono hA3.size))⟩
      have hcd : (cd == cd) = true := by simp
      have HRI := Lib.hid hri
      clear hs2 hB3 he2 hA3 hA4 hri HE HS HE1 HE2 HST H1 HC1 HK7 HA2 HW N1 N2
      go_wp2_with fail
      refine (alive_any HRI.out.ger).mono ?_
      rintro e w4 ⟨rfl, hB4⟩
      have HR4 := Lib.hid (HRI.out.below hB4)
      obtain ⟨q0, q1, q2, q3, q4, q5, q6, q7⟩ := HR4.out.cells
      clear hB4
      go_wp2_with fail
      refine (HR4.out.e1 _ (Below.refl _ _)).mono ?_
      rintro e w5 ⟨rfl, rfl⟩
      go_wp2_with fail
      refine (HR4.out.e2 _ (Below.refl _ _)).mono ?_
      rintro e w5 ⟨rfl, rfl⟩
      go_wp2_with fail
      refine (HSS.out _ _ _ _ _ _ _ _ _ HR4.out.s1 HR4.out.s2).mono ?_
      rintro e w5 ⟨rfl, hB5⟩
      have HB5 := Lib.hid (HR4.out.bel.trans (hB5.mono HR4.out.bel.size))
      clear hB5
      go_wp2
      go_ret
      exact ⟨rfl, HB5.out⟩
    ·
      go_simp
      refine hK.out _ _ (HK.out _ (HM.out _ (hg4.alloc _).bel)) (fun hHeld => ?_)
      clear hK K
      try simp only [List.getElem_toArray, List.getElem_cons_zero, List.getElem_cons_succ, Act.put, List.setIfInBounds_toArray, List.set_cons_zero, List.set_cons_succ]
      refine wpAnyH_ready (rs := [9]) (by kernel_rfl) (by simp) ?_
      refine AllReadyH.cons rfl (fun K hK => ?_) AllReadyH.nil
      refine step_gw (by rfl) _ _ (by rfl) (by rfl) (hg4.alloc _) ⟨b, off, none⟩ kn c (s.es.take kn) (by rfl) HL2.out (ND2.out _ (HM.out _ (hg4.alloc _).bel)) n (by rw [HL1.out]; omega) (by omega) (by omega) ?_
      intro g9 cap9 W9 hg9 hk9 hl9
      refine hK.out _ _ (HK.out _ (HM.out _ hg9.bel)) (fun hHeld => ?_)
      clear hK K
      try simp only [List.getElem_toArray, List.getElem_cons_zero, List.getElem_cons_succ, Act.put, List.setIfInBounds_toArray, List.set_cons_zero, List.set_cons_succ]
      refine wpAnyH_ready (rs := [16]) (by kernel_rfl) (by simp) ?_
      refine AllReadyH.cons rfl (fun K hK => ?_) AllReadyH.nil
      have hne : (Value.slice (some ⟨g4, 0, none⟩) (n - kn) cap4).ownBlock ≠ some W4.heap.size := fun e => by have h1 := hg4.blk; have h2 : g4 = W4.heap.size := Option.some.inj e; omega
      refine step_gw (by rfl) _ _ (by rfl) (by rfl) hg9 ⟨W4.heap.size, 0, none⟩ 1 1 [(x1, x2, x3)] (by rfl) rfl (lit3 (x := (x1, x2, x3)) ((hk9 _ (by simp) hne).trans (heap_alloc_at _ _ _ rfl))) (n + 1) (by rw [List.length_append, HL1.out, HL2.out]; omega) (by omega) (by omega) ?_
      intro gT capT W hgT hkT hlT
      refine hK.out _ _ (HK.out _ (HM.out _ hgT.bel)) (fun hHeld => ?_)
      clear hK K
      try simp only [List.getElem_toArray, List.getElem_cons_zero, List.getElem_cons_succ, Act.put, List.setIfInBounds_toArray, List.set_cons_zero, List.set_cons_succ]
      refine wpAnyH_take (i := 17) (v := ?_) rfl (by kernel_rfl) (by kernel_rfl) (by kernel_rfl) (fun _ _ _ h => h) (Or.inl ⟨by rfl, ?_⟩) (by assumption) ?_
      rotate_left
      · intro w hSw
        try dsimp only at hSw
        go_simp
        try with_reducible rfl
      try simp only [List.getElem_toArray, List.getElem_cons_zero, List.getElem_cons_succ, Act.put, List.setIfInBounds_toArray, List.set_cons_zero, List.set_cons_succ]
      refine wpAnyH_ready (rs := [18]) (by kernel_rfl) (by simp) ?_
      refine AllReadyH.cons rfl (fun K hK => ?_) AllReadyH.nil
      obtain ⟨hcT, hfT⟩ := HT.out _ (hgT.bel.mono (by have := HS0.out; omega))
      have HGT := Lib.hid hgT
      clear hgT
      go_simp
      refine hK.out _ _ (HK.out _ ((HM.out _ HGT.out.bel).setCell (by show w.heap.size + 1 ≤ w.heap.size + 1; omega) _)) (fun hHeld => ?_)
      clear hK K
      try simp only [List.getElem_toArray, List.getElem_cons_zero, List.getElem_cons_succ, Act.put, List.setIfInBounds_toArray, List.set_cons_zero, List.set_cons_succ]
      refine wpAnyH_done (by kernel_rfl) ?_ _
      obtain ⟨hbW, hxW, hyW, hsW⟩ := HBE.out _ _ _ _ _ (Below.refl _ _) HGT.out
      clear hcT hfT
      generalize World.setCell _ _ _ = w1 at hbW hxW hyW hsW ⊢
      have HW := Lib.hid hbW; have HX := Lib.hid hxW; have HY := Lib.hid hyW; have HSW := Lib.hid hsW
      have t0 : w1.cell? ⟨w.heap.size, 0, none⟩ = some (.int .i64 s.st) := by simp [World.cell?, hxW]
      have t1 : w1.cell? ⟨w.heap.size, 1, none⟩ = some (.int .i64 s.lb) := by simp [World.cell?, hxW]
      have t2 : w1.cell? ⟨w.heap.size, 2, none⟩ = some (.int .i64 s.s0) := by simp [World.cell?, hxW]
      have t3 : w1.cell? ⟨w.heap.size, 3, none⟩ = some (.slice (some ⟨b, off, none⟩) n c) := by simp [World.cell?, hxW]
      have hE1 := HE.out.below hbW
      have hS1 := HS.out.below hbW (Nat.le_refl _)
      have HE1 := Lib.hid hE1; have HS1 := Lib.hid hS1
      clear hbW hxW hyW hsW hE1 hS1
      go_wp2_with fail
      refine (N1.out _ HE1.out HS1.out).mono ?_
      rintro e w2 ⟨a1, d1, b1, o1, v1, rfl, hs1, hB2, he1⟩
      obtain ⟨o7, ho7⟩ : ∃ o7 : Obj, o7 = .cells #[.int .i64 nx, .int .i64 ny, .int .i64 nz, .slice a1 L.length d1] 24 := ⟨_, rfl⟩
      have hA2 : Below w1.heap.size w1 (w2.alloc o7) := hB2.alloc hB2.size o7
      have hy2 : (w2.alloc o7).heap[w.heap.size + 1]? = some (.cells #[.int .i64 s.st, .int .i64 s.lb, .int .i64 s.s0, .slice (some ⟨gT, 0, none⟩) (n + 1) capT] 24 (0, 0)) := by
        rw [hA2.block _ (Array.getElem?_eq_some_iff.1 HY.out).1]; exact HY.out
      have hk7 : (w2.alloc o7).heap[w2.heap.size]? = some (.cells #[.int .i64 nx, .int .i64 ny, .int .i64 nz, .slice a1 L.length d1] 24 (0, 0)) := by rw [heap_alloc_new, ho7]
      rw [ho7] at hA2 hy2 hk7
      have t0 : (w2.alloc (.cells #[.int .i64 nx, .int .i64 ny, .int .i64 nz, .slice a1 L.length d1] 24)).cell? ⟨w.heap.size + 1, 0, none⟩ = some (.int .i64 s.st) := by simp only [World.cell?, hy2]; rfl
      have t1 : (w2.alloc (.cells #[.int .i64 nx, .int .i64 ny, .int .i64 nz, .slice a1 L.length d1] 24)).cell? ⟨w.heap.size + 1, 1, none⟩ = some (.int .i64 s.lb) := by simp only [World.cell?, hy2]; rfl
      have t2 : (w2.alloc (.cells #[.int .i64 nx, .int .i64 ny, .int .i64 nz, .slice a1 L.length d1] 24)).cell? ⟨w.heap.size + 1, 2, none⟩ = some (.int .i64 s.s0) := by simp only [World.cell?, hy2]; rfl
      have t3 : (w2.alloc (.cells #[.int .i64 nx, .int .i64 ny, .int .i64 nz, .slice a1 L.length d1] 24)).cell? ⟨w.heap.size + 1, 3, none⟩ = some (.slice (some ⟨gT, 0, none⟩) (n + 1) capT) := by simp only [World.cell?, hy2]; rfl
      have HA2 := Lib.hid hA2; have HK7 := Lib.hid hk7; have HE2 := Lib.hid (HE1.out.below hA2)
      have HST := Lib.hid (HSW.out.below hA2 (Nat.le_refl _))
      have H1 := Lib.hid (hs1.below ((Below.refl _ _).alloc (Nat.le_refl _) (.cells #[.int .i64 nx, .int .i64 ny, .int .i64 nz, .slice a1 L.length d1] 24)) (Nat.le_refl _))
      have HC1 : RowKit.Hid (∀ w3, Below (w2.alloc (.cells #[.int .i64 nx, .int .i64 ny, .int .i64 nz, .slice a1 L.length d1] 24)).heap.size (w2.alloc (.cells #[.int .i64 nx, .int .i64 ny, .int .i64 nz, .slice a1 L.length d1] 24)) w3 → Calls Tryd.prog 48 #[v1] w3 fun e w4 => e = .returned (.int .i64 cd) ∧ w3 = w4) :=
        Lib.hid fun w3 h3 => he1 w3 (((Below.refl _ _).alloc (Nat.le_refl _) _).trans (h3.mono (by simp)))
      clear ho7 hA2 hy2 hk7 hs1 hB2 he1 HS1 HX HY HSW
      go_wp2_with fail
      refine (N2.out _ gT (n + 1) capT HLEN.out.symm HE2.out HST.out).mono ?_
      rintro e w3 ⟨a2, d2, b2, o2, v2, rfl, hs2, hB3, he2⟩
      have hA3 : Below w3.heap.size w3 (w3.alloc (.cells #[.int .i64 nx, .int .i64 ny, .int .i64 nz, .slice a2 L.length d2] 24)) := (Below.refl _ _).alloc (Nat.le_refl _) _
      have hA4 := hB3.trans (hA3.mono hB3.size)
      have hri : RI w (w3.alloc (.cells #[.int .i64 nx, .int .i64 ny, .int .i64 nz, .slice a2 L.length d2] 24)) p w2.heap.size w3.heap.size nx ny nz L cd a1 d1 b1 o1 v1 a2 d2 b2 o2 v2 :=
        ⟨(HW.out.trans (HA2.out.mono HW.out.size)).trans (hA4.mono (HW.out.trans (HA2.out.mono HW.out.size)).size), (HE2.out.below hA4).sys, by rw [hA4.block _ (Array.getElem?_eq_some_iff.1 HK7.out).1]; exact HK7.out, heap_alloc_new _ _, H1.out.below hA4 (Nat.le_refl _), hs2.below hA3 (Nat.le_refl _),
          fun w5 h5 => HC1.out w5 (hA4.trans (h5.mono hA4.size)), fun w5 h5 => he2 w5 (hA3.trans (h5.mono hA3.size))⟩
      have hcd : (cd == cd) = true := by simp
      have HRI := Lib.hid hri
      clear hs2 hB3 he2 hA3 hA4 hri HE HS HE1 HE2 HST H1 HC1 HK7 HA2 HW N1 N2
      go_wp2_with fail
      refine (alive_any HRI.out.ger).mono ?_
      rintro e w4 ⟨rfl, hB4⟩
      have HR4 := Lib.hid (HRI.out.below hB4)
      obtain ⟨q0, q1, q2, q3, q4, q5, q6, q7⟩ := HR4.out.cells
      clear hB4
      go_wp2_with fail
      refine (HR4.out.e1 _ (Below.refl _ _)).mono ?_
      rintro e w5 ⟨rfl, rfl⟩
      go_wp2_with fail
      refine (HR4.out.e2 _ (Below.refl _ _)).mono ?_
      rintro e w5 ⟨rfl, rfl⟩
      go_wp2_with fail
      refine (HSS.out _ _ _ _ _ _ _ _ _ HR4.out.s1 HR4.out.s2).mono ?_
      rintro e w5 ⟨rfl, hB5⟩
      have HB5 := Lib.hid (HR4.out.bel.trans (hB5.mono HR4.out.bel.size))
      clear hB5
      go_wp2
      go_ret
      exact ⟨rfl, HB5.out⟩
  ·
    go_simp
    have hg1 : GW (w0.drew.alloc (.cells #[.int .i64 x1, .int .i64 x2, .int .i64 x3] 35)) (w0.drew.alloc (.cells #[.int .i64 x1, .int .i64 x2, .int .i64 x3] 35)) [] (.slice none 0 0) := GW.nil (Below.refl _ _)
    have hlit := heap_alloc_at w0.drew (.cells #[.int .i64 x1, .int .i64 x2, .int .i64 x3] 35) w0.heap.size rfl
    have G1 := Lib.hid hg1; have HLIT := Lib.hid hlit
    clear hg1 hlit
    refine hK.out _ _ (HK.out _ (HM1.out _ _ _ G1.out)) (fun hHeld => ?_)
    clear hK K
    try simp only [List.getElem_toArray, List.getElem_cons_zero, List.getElem_cons_succ, Act.put, List.setIfInBounds_toArray, List.set_cons_zero, List.set_cons_succ]
    refine wpAnyH_ready (rs := [4]) (by kernel_rfl) (by simp) ?_
    refine AllReadyH.cons rfl (fun K hK => ?_) AllReadyH.nil
    refine step_gw (by rfl) _ _ (by rfl) (by rfl) G1.out ⟨b, off + kn * 3, none⟩ (n - kn) (c - kn) (s.es.drop kn) (by rfl) HL1.out (ND1.out _ (HM1.out _ _ _ G1.out)) (n - kn) (by simp) (by omega) (by omega) ?_
    intro g4 cap4 W4 hg4 hk4 hl4
    rw [List.nil_append] at hg4
    refine hK.out _ _ (HK.out _ (HM1.out _ _ _ hg4)) (fun hHeld => ?_)
    clear hK K
    try simp only [List.getElem_toArray, List.getElem_cons_zero, List.getElem_cons_succ, Act.put, List.setIfInBounds_toArray, List.set_cons_zero, List.set_cons_succ]
    refine wpAnyH_ready (rs := [9]) (by kernel_rfl) (by simp) ?_
    refine AllReadyH.cons rfl (fun K hK => ?_) AllReadyH.nil
    refine step_gw (by rfl) _ _ (by rfl) (by rfl) hg4 ⟨b, off, none⟩ kn c (s.es.take kn) (by rfl) HL2.out (ND2.out _ (HM1.out _ _ _ hg4)) n (by rw [HL1.out]; omega) (by omega) (by omega) ?_
    intro g9 cap9 W9 hg9 hk9 hl9
    refine hK.out _ _ (HK.out _ (HM1.out _ _ _ hg9)) (fun hHeld => ?_)
    clear hK K
    try simp only [List.getElem_toArray, List.getElem_cons_zero, List.getElem_cons_succ, Act.put, List.setIfInBounds_toArray, List.set_cons_zero, List.set_cons_succ]
    refine wpAnyH_ready (rs := [16]) (by kernel_rfl) (by simp) ?_
    refine AllReadyH.cons rfl (fun K hK => ?_) AllReadyH.nil
    refine step_gw (by rfl) _ _ (by rfl) (by rfl) hg9 ⟨w0.heap.size, 0, none⟩ 1 1 [(x1, x2, x3)] (by rfl) rfl (lit3 (x := (x1, x2, x3)) ((hg9.bel.block _ (Array.getElem?_eq_some_iff.1 HLIT.out).1).trans HLIT.out)) (n + 1) (by rw [List.length_append, HL1.out, HL2.out]; omega) (by omega) (by omega) ?_
    intro gT capT W hgT hkT hlT
    refine hK.out _ _ (HK.out _ (HM1.out _ _ _ hgT)) (fun hHeld => ?_)
    clear hK K
    try simp only [List.getElem_toArray, List.getElem_cons_zero, List.getElem_cons_succ, Act.put, List.setIfInBounds_toArray, List.set_cons_zero, List.set_cons_succ]
    refine wpAnyH_take (i := 17) (v := ?_) rfl (by kernel_rfl) (by kernel_rfl) (by kernel_rfl) (fun _ _ _ h => h) (Or.inl ⟨by rfl, ?_⟩) (by assumption) ?_
    rotate_left
    · intro w hSw
      try dsimp only at hSw
      go_simp
      try with_reducible rfl
    try simp only [List.getElem_toArray, List.getElem_cons_zero, List.getElem_cons_succ, Act.put, List.setIfInBounds_toArray, List.set_cons_zero, List.set_cons_succ]
    refine wpAnyH_ready (rs := [18]) (by kernel_rfl) (by simp) ?_
    refine AllReadyH.cons rfl (fun K hK => ?_) AllReadyH.nil
    obtain ⟨hcT, hfT⟩ := HT.out _ (((Below.refl (w.heap.size + 2) w0).drew.alloc (by have := HS0.out; show w.heap.size + 2 ≤ w0.heap.size; omega) _).trans (hgT.bel.mono (by have := HS0.out; simp; omega)))
    have HGT := Lib.hid hgT
    clear hgT
    go_simp
    refine hK.out _ _ (HK.out _ ((HM1.out _ _ _ HGT.out).setCell (by show w.heap.size + 1 ≤ w.heap.size + 1; omega) _)) (fun hHeld => ?_)
    clear hK K
    try simp only [List.getElem_toArray, List.getElem_cons_zero, List.getElem_cons_succ, Act.put, List.setIfInBounds_toArray, List.set_cons_zero, List.set_cons_succ]
    refine wpAnyH_done (by kernel_rfl) ?_ _
    obtain ⟨hbW, hxW, hyW, hsW⟩ := HBE.out _ _ _ _ _ ((Below.refl _ _).drew.alloc (Nat.le_refl _) _) HGT.out
    clear hcT hfT
    generalize World.setCell _ _ _ = w1 at hbW hxW hyW hsW ⊢
    have HW := Lib.hid hbW; have HX := Lib.hid hxW; have HY := Lib.hid hyW; have HSW := Lib.hid hsW
    have t0 : w1.cell? ⟨w.heap.size, 0, none⟩ = some (.int .i64 s.st) := by simp [World.cell?, hxW]
    have t1 : w1.cell? ⟨w.heap.size, 1, none⟩ = some (.int .i64 s.lb) := by simp [World.cell?, hxW]
    have t2 : w1.cell? ⟨w.heap.size, 2, none⟩ = some (.int .i64 s.s0) := by simp [World.cell?, hxW]
    have t3 : w1.cell? ⟨w.heap.size, 3, none⟩ = some (.slice (some ⟨b, off, none⟩) n c) := by simp [World.cell?, hxW]
    have hE1 := HE.out.below hbW
    have hS1 := HS.out.below hbW (Nat.le_refl _)
    have HE1 := Lib.hid hE1; have HS1 := Lib.hid hS1
    clear hbW hxW hyW hsW hE1 hS1
    go_wp2_with fail
    refine (N1.out _ HE1.out HS1.out).mono ?_
    rintro e w2 ⟨a1, d1, b1, o1, v1, rfl, hs1, hB2, he1⟩
    obtain ⟨o7, ho7⟩ : ∃ o7 : Obj, o7 = .cells #[.int .i64 nx, .int .i64 ny, .int .i64 nz, .slice a1 L.length d1] 24 := ⟨_, rfl⟩
    have hA2 : Below w1.heap.size w1 (w2.alloc o7) := hB2.alloc hB2.size o7
    have hy2 : (w2.alloc o7).heap[w.heap.size + 1]? = some (.cells #[.int .i64 s.st, .int .i64 s.lb, .int .i64 s.s0, .slice (some ⟨gT, 0, none⟩) (n + 1) capT] 24 (0, 0)) := by
      rw [hA2.block _ (Array.getElem?_eq_some_iff.1 HY.out).1]; exact HY.out
    have hk7 : (w2.alloc o7).heap[w2.heap.size]? = some (.cells #[.int .i64 nx, .int .i64 ny, .int .i64 nz, .slice a1 L.length d1] 24 (0, 0)) := by rw [heap_alloc_new, ho7]
    rw [ho7] at hA2 hy2 hk7
    have t0 : (w2.alloc (.cells #[.int .i64 nx, .int .i64 ny, .int .i64 nz, .slice a1 L.length d1] 24)).cell? ⟨w.heap.size + 1, 0, none⟩ = some (.int .i64 s.st) := by simp only [World.cell?, hy2]; rfl
    have t1 : (w2.alloc (.cells #[.int .i64 nx, .int .i64 ny, .int .i64 nz, .slice a1 L.length d1] 24)).cell? ⟨w.heap.size + 1, 1, none⟩ = some (.int .i64 s.lb) := by simp only [World.cell?, hy2]; rfl
    have t2 : (w2.alloc (.cells #[.int .i64 nx, .int .i64 ny, .int .i64 nz, .slice a1 L.length d1] 24)).cell? ⟨w.heap.size + 1, 2, none⟩ = some (.int .i64 s.s0) := by simp only [World.cell?, hy2]; rfl
    have t3 : (w2.alloc (.cells #[.int .i64 nx, .int .i64 ny, .int .i64 nz, .slice a1 L.length d1] 24)).cell? ⟨w.heap.size + 1, 3, none⟩ = some (.slice (some ⟨gT, 0, none⟩) (n + 1) capT) := by simp only [World.cell?, hy2]; rfl
    have HA2 := Lib.hid hA2; have HK7 := Lib.hid hk7; have HE2 := Lib.hid (HE1.out.below hA2)
    have HST := Lib.hid (HSW.out.below hA2 (Nat.le_refl _))
    have H1 := Lib.hid (hs1.below ((Below.refl _ _).alloc (Nat.le_refl _) (.cells #[.int .i64 nx, .int .i64 ny, .int .i64 nz, .slice a1 L.length d1] 24)) (Nat.le_refl _))
    have HC1 : RowKit.Hid (∀ w3, Below (w2.alloc (.cells #[.int .i64 nx, .int .i64 ny, .int .i64 nz, .slice a1 L.length d1] 24)).heap.size (w2.alloc (.cells #[.int .i64 nx, .int .i64 ny, .int .i64 nz, .slice a1 L.length d1] 24)) w3 → Calls Tryd.prog 48 #[v1] w3 fun e w4 => e = .returned (.int .i64 cd) ∧ w3 = w4) :=
      Lib.hid fun w3 h3 => he1 w3 (((Below.refl _ _).alloc (Nat.le_refl _) _).trans (h3.mono (by simp)))
    clear ho7 hA2 hy2 hk7 hs1 hB2 he1 HS1 HX HY HSW
    go_wp2_with fail
    refine (N2.out _ gT (n + 1) capT HLEN.out.symm HE2.out HST.out).mono ?_
    rintro e w3 ⟨a2, d2, b2, o2, v2, rfl, hs2, hB3, he2⟩
    have hA3 : Below w3.heap.size w3 (w3.alloc (.cells #[.int .i64 nx, .int .i64 ny, .int .i64 nz, .slice a2 L.length d2] 24)) := (Below.refl _ _).alloc (Nat.le_refl _) _
    have hA4 := hB3.trans (hA3.mono hB3.size)
    have hri : RI w (w3.alloc (.cells #[.int .i64 nx, .int .i64 ny, .int .i64 nz, .slice a2 L.length d2] 24)) p w2.heap.size w3.heap.size nx ny nz L cd a1 d1 b1 o1 v1 a2 d2 b2 o2 v2 :=
      ⟨(HW.out.trans (HA2.out.mono HW.out.size)).trans (hA4.mono (HW.out.trans (HA2.out.mono HW.out.size)).size), (HE2.out.below hA4).sys, by rw [hA4.block _ (Array.getElem?_eq_some_iff.1 HK7.out).1]; exact HK7.out, heap_alloc_new _ _, H1.out.below hA4 (Nat.le_refl _), hs2.below hA3 (Nat.le_refl _),
        fun w5 h5 => HC1.out w5 (hA4.trans (h5.mono hA4.size)), fun w5 h5 => he2 w5 (hA3.trans (h5.mono hA3.size))⟩
    have hcd : (cd == cd) = true := by simp
    have HRI := Lib.hid hri
    clear hs2 hB3 he2 hA3 hA4 hri HE HS HE1 HE2 HST H1 HC1 HK7 HA2 HW N1 N2
    go_wp2_with fail
    refine (alive_any HRI.out.ger).mono ?_
    rintro e w4 ⟨rfl, hB4⟩
    have HR4 := Lib.hid (HRI.out.below hB4)
    obtain ⟨q0, q1, q2, q3, q4, q5, q6, q7⟩ := HR4.out.cells
    clear hB4
    go_wp2_with fail
    refine (HR4.out.e1 _ (Below.refl _ _)).mono ?_
    rintro e w5 ⟨rfl, rfl⟩
    go_wp2_with fail
    refine (HR4.out.e2 _ (Below.refl _ _)).mono ?_
    rintro e w5 ⟨rfl, rfl⟩
    go_wp2_with fail
    refine (HSS.out _ _ _ _ _ _ _ _ _ HR4.out.s1 HR4.out.s2).mono ?_
    rintro e w5 ⟨rfl, hB5⟩
    have HB5 := Lib.hid (HR4.out.bel.trans (hB5.mono HR4.out.bel.size))
    clear hB5
    go_wp2
    go_ret
    exact ⟨rfl, HB5.out⟩
end Go.Proofs.YtfjgedninbpjpaaDoor

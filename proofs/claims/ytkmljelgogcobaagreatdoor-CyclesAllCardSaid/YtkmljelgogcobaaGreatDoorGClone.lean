/-
  slices.Clone at edges and at steps: the same cells, in memory of the call's own.
  An append of a whole list that is read, nil or not.
-/
import Derived.Test.YtkmljelgogcobaaGreatDoorGBase
import Derived.Outline
import Derived.Test.YtkmljelgogcobaaGreatDoorRws
import Derived.Laws.AppendOwnNone
namespace Go.Proofs.YtkmljelgogcobaaGreatDoor
open Go.RowKit Pl

theorem slAt_flat {α : Type} {enc : α → List Value} {k : Nat} {w : World} {a : Option Addr} {b off : Nat} {xs : List α} (hk : ∀ x, (enc x).length = k) (h : SlAt enc k w a b off xs) (j : Nat) (u : Value) (hu : (xs.flatMap enc)[j]? = some u) :
    w.cell? ((⟨b, off, none⟩ : Addr).add j) = some u := by
  have hj := (List.getElem?_eq_some_iff.1 hu).1
  rw [length_flatMap hk] at hj
  have hk0 : 0 < k := by
    rcases Nat.eq_zero_or_pos k with rfl | h
    · simp at hj
    · exact h
  have hi : j / k < xs.length := by rw [Nat.div_lt_iff_lt_mul hk0]; exact hj
  obtain ⟨x, hx⟩ := getElem?_of_lt hi
  have hm : j % k < (enc x).length := by rw [hk]; exact Nat.mod_lt _ hk0
  have h1 := getElem?_flatMap hk xs (j / k) x hx (j % k) _ (List.getElem?_eq_getElem hm)
  rw [show j / k * k + j % k = j from Nat.div_add_mod' j k] at h1
  rw [hu] at h1
  have h2 := h.cell (j / k) x hx (j % k) u (by rw [List.getElem?_eq_getElem hm, ← h1])
  rw [show off + j / k * k + j % k = off + j by rw [Nat.add_assoc, Nat.div_add_mod']] at h2
  have hadd : (⟨b, off, none⟩ : Addr).add j = ⟨b, off + j, none⟩ := by unfold Addr.add; split <;> simp_all
  rw [hadd]; exact h2

theorem cell_alloc_of {w : World} {o : Obj} {a : Addr} {u : Value} (h : w.cell? a = some u) : (w.alloc o).cell? a = some u := by
  rw [World.cell?_alloc_old _ _ _ (Nat.ne_of_lt (World.block_lt_of_cell? _ _ h))]; exact h

set_option maxRecDepth 100000 in
theorem cloneE_any {a : Option Addr} {b off c : Nat} {xs : List E} {w : World} (h : SlAt encE 3 w a b off xs) (hl : xs.length ≤ 1000000) :
    Calls Tryz.prog 50 #[.slice a xs.length c] w fun e w' => ∃ v, e = .returned v ∧ w'.ownsRow w.heap.size 79 3 v xs.length (xs.flatMap encE) ∧ Below w.heap.size w w' := by
  cases a with
  | none =>
    have hx : xs = [] := by
      cases xs with
      | nil => rfl
      | cons x l => have := h.ad (by simp); cases this
    subst hx
    have heq := fun (w : World) => Lib.run_eql_slice_nil (P := Tryz.prog) w 22 79 none 0 c 0 0 Tryz.underlying22
    clear h
    go_enter Tryz.func50, Tryz.ntmps50
    go_wp2
    go_ret
    exact ⟨_, rfl, World.ownsRow_nil _ _ _ _, Below.refl _ _⟩
  | some ad =>
    have heq := fun (w : World) => Lib.run_eql_slice_nil (P := Tryz.prog) w 22 79 (some ad) xs.length c 0 0 Tryz.underlying22
    have hnews : ∀ j u, (xs.flatMap encE)[j]? = some u → w.cell? (ad.add j) = some u := by
      intro j u hu
      have hj := (List.getElem?_eq_some_iff.1 hu).1
      rw [length_flatMap lenE] at hj
      have hp : 0 < xs.length := by cases xs <;> simp at *
      have := h.ad hp
      simp at this; subst this
      exact slAt_flat lenE h j u hu
    have hlen : (xs.flatMap encE).length = xs.length * 3 := length_flatMap lenE xs
    have h1 : ∀ u ∈ xs.flatMap encE, u.oneCell' = true := by
      intro u hu
      obtain ⟨x, _, hx⟩ := List.mem_flatMap.1 hu
      simp [encE] at hx
      rcases hx with rfl | rfl | rfl <;> rfl
    have HN := Lib.hid hnews; have HL := Lib.hid hlen; have H1 := Lib.hid h1
    clear h hnews hlen h1
    generalize xs.flatMap encE = news at *
    go_enter Tryz.func50, Tryz.ntmps50
    go_wp2_with (at_builtin; refine wpList_app rfl _ _ _ rfl rowE ((Below.refl w.heap.size w).alloc (Nat.le_refl _) _) (by simp) rfl (World.ownsRow_made w #[] 0 (Nat.le_refl _) (by decide) (by simp)) ad xs.length c news rfl HL.out (fun j u hu => cell_alloc_of (HN.out j u hu)) H1.out (by omega) (by unfold maxLen; omega) ?_; intro v' w1 hown1 hb1 _)
    go_ret
    exact ⟨_, rfl, by simpa using hown1, hb1⟩

set_option maxRecDepth 100000 in
theorem cloneS_any {a : Option Addr} {b off c : Nat} {xs : List S} {w : World} (h : SlAt encS 2 w a b off xs) (hl : xs.length ≤ 1000000) :
    Calls Tryz.prog 57 #[.slice a xs.length c] w fun e w' => ∃ v, e = .returned v ∧ w'.ownsRow w.heap.size 92 2 v xs.length (xs.flatMap encS) ∧ Below w.heap.size w w' := by
  cases a with
  | none =>
    have hx : xs = [] := by
      cases xs with
      | nil => rfl
      | cons x l => have := h.ad (by simp); cases this
    subst hx
    have heq := fun (w : World) => Lib.run_eql_slice_nil (P := Tryz.prog) w 46 92 none 0 c 0 0 Tryz.underlying46
    clear h
    go_enter Tryz.func57, Tryz.ntmps57
    go_wp2
    go_ret
    exact ⟨_, rfl, World.ownsRow_nil _ _ _ _, Below.refl _ _⟩
  | some ad =>
    have heq := fun (w : World) => Lib.run_eql_slice_nil (P := Tryz.prog) w 46 92 (some ad) xs.length c 0 0 Tryz.underlying46
    have hnews : ∀ j u, (xs.flatMap encS)[j]? = some u → w.cell? (ad.add j) = some u := by
      intro j u hu
      have hj := (List.getElem?_eq_some_iff.1 hu).1
      rw [length_flatMap lenS] at hj
      have hp : 0 < xs.length := by cases xs <;> simp at *
      have := h.ad hp
      simp at this; subst this
      exact slAt_flat lenS h j u hu
    have hlen : (xs.flatMap encS).length = xs.length * 2 := length_flatMap lenS xs
    have h1 : ∀ u ∈ xs.flatMap encS, u.oneCell' = true := by
      intro u hu
      obtain ⟨x, _, hx⟩ := List.mem_flatMap.1 hu
      simp [encS] at hx
      rcases hx with rfl | rfl <;> rfl
    have HN := Lib.hid hnews; have HL := Lib.hid hlen; have H1 := Lib.hid h1
    clear h hnews hlen h1
    generalize xs.flatMap encS = news at *
    go_enter Tryz.func57, Tryz.ntmps57
    go_wp2_with (at_builtin; refine wpList_app rfl _ _ _ rfl rowS ((Below.refl w.heap.size w).alloc (Nat.le_refl _) _) (by simp) rfl (World.ownsRow_made w #[] 0 (Nat.le_refl _) (by decide) (by simp)) ad xs.length c news rfl HL.out (fun j u hu => cell_alloc_of (HN.out j u hu)) H1.out (by omega) (by unfold maxLen; omega) ?_; intro v' w1 hown1 hb1 _)
    go_ret
    exact ⟨_, rfl, by simpa using hown1, hb1⟩

end Go.Proofs.YtkmljelgogcobaaGreatDoor

namespace Go.Proofs.YtkmljelgogcobaaGreatDoor
open Go.RowKit Pl

theorem flat_slice {α : Type} {enc : α → List Value} {k : Nat} {w : World} {a : Option Addr} {ad : Addr} {b off : Nat} {xs : List α} (hk : ∀ x, (enc x).length = k) (h1 : ∀ x, ∀ u ∈ enc x, u.oneCell' = true) (hS : SlAt enc k w a b off xs) (ha : a = some ad) :
    (∀ j u, (xs.flatMap enc)[j]? = some u → w.cell? (ad.add j) = some u) ∧ (∀ u ∈ xs.flatMap enc, u.oneCell' = true) ∧ (xs.flatMap enc).length = xs.length * k := by
  refine ⟨fun j u hu => ?_, fun u hu => ?_, length_flatMap hk xs⟩
  · have hp : 0 < xs.length := by
      rcases Nat.eq_zero_or_pos xs.length with h | h
      · rw [List.eq_nil_of_length_eq_zero h] at hu; simp at hu
      · exact h
    have had := hS.ad hp
    rw [ha] at had
    cases had
    exact slAt_flat hk hS j u hu
  · obtain ⟨y, _, hy⟩ := List.mem_flatMap.1 hu
    exact h1 y u hy

theorem wpList_appS {P : Program} {w : World} {ops : Array Oper} {rest : List Oper} {o : Oper} {a : Act} {Q : Exit → Act → World → Prop} (hgd : o.guard = none) (s x : Operand) (t : TypeId)
    (ho : o.op = .call { callee := .builtin .append, args := #[s, x], argTypes := #[t, t] })
    {e : TypeId} {size bytes : Nat} {z : Value} (R : IsRow P t e size bytes z) {base : Nat} (hb0 : base ≤ w.heap.size)
    {v : Value} {n : Nat} {xs : List Value} (hs : a.eval s = v) (hown : w.ownsRow base e size v n xs)
    {α : Type} {enc : α → List Value} {ys : List α} {sa : Option Addr} {b off c : Nat} (hk : ∀ x, (enc x).length = size) (h1 : ∀ x, ∀ u ∈ enc x, u.oneCell' = true) (hS : SlAt enc size w sa b off ys) (hx : a.eval x = .slice sa ys.length c)
    (hbytes : (n + ys.length) * bytes ≤ 140737488355328) (hmax : n + ys.length ≤ maxLen)
    (h : ∀ v' w', w'.ownsRow base e size v' (n + ys.length) (xs ++ ys.flatMap enc) → w.grownBy w' v.ownBlock → wpList P ops Q rest (a.put o.dst v') w') : wpList P ops Q (o :: rest) a w := by
  cases sa with
  | some ad =>
    obtain ⟨g1, g2, g3⟩ := flat_slice hk h1 hS rfl
    exact wpList_app (w0 := w) hgd s x t ho R (Below.refl base w) hb0 hs hown ad ys.length c _ hx g3 g1 g2 hbytes hmax (fun v' w' h2 _ h3 => h v' w' h2 h3)
  | none =>
    have h0 : ys = [] := by
      rcases Nat.eq_zero_or_pos ys.length with h | h
      · exact List.eq_nil_of_length_eq_zero h
      · have := hS.ad h; cases this
    subst h0
    obtain ⟨i, hi, _⟩ := R.info
    refine wpList_plain hgd fun K hK => ?_
    have hrun : (Builtin.append_ #[t, t] o.type #[v, .slice none 0 c]).run P w = .ok v w := by
      rcases hown.2 with ⟨rfl, rfl⟩ | ⟨g, cap, cur, rfl, _, _, hnc, _⟩
      · simp [Builtin.append_, run_underlying R.ht, sizeOf, typeInfo, hi, Builtin.lenOf, Builtin.firstCells]
      · simp [Builtin.append_, run_underlying R.ht, sizeOf, typeInfo, hi, Builtin.lenOf, Builtin.firstCells, hnc, storeCells]
    have hx' : a.eval x = .slice none 0 c := hx
    unfold Oper.wp
    simp [execOp, ho, resolve, invoke, builtin, hs, hx', hrun, Result.andThen]
    exact hK _ _ (h v w (by simpa using hown) ⟨rfl, rfl, rfl, Nat.le_refl _, fun _ _ _ => rfl⟩)
end Go.Proofs.YtkmljelgogcobaaGreatDoor

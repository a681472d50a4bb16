/-
  slices.SortFunc at steps, by the shelf's contract; slices.Compare at ints; branching.sorted: the normal form of a list of steps.
-/
import Derived.Test.YtdhloijdefnkpaaGreatDoorShelf
import Derived.Test.YtdhloijdefnkpaaGreatDoorCompactS
import Derived.Test.YtdhloijdefnkpaaGreatDoorGOrder
namespace Go.Proofs.YtdhloijdefnkpaaGreatDoor
open Go.RowKit Pl Go.Sort Go.Shelf Go.Lib

def cmpS (a b : S) : Int := orL [cmpI a.1 b.1, cmpI a.2 b.2]
theorem ltOf_cmpS (x y : S) : ltOf cmpS x y = ltS x y := by
  rw [Bool.eq_iff_iff, ltS_iff]
  unfold ltOf cmpS orL orL orL cmpI
  simp only [decide_eq_true_eq]
  repeat' split
  all_goals omega
theorem swoS : SWO (ltOf cmpS) where
  irrefl x := by rw [ltOf_cmpS]; exact stoS.irrefl x
  trans x y z := by rw [ltOf_cmpS, ltOf_cmpS, ltOf_cmpS]; exact stoS.trans x y z
  ntrans x y z := by
    rw [ltOf_cmpS, ltOf_cmpS, ltOf_cmpS]
    simp only [Bool.eq_false_iff, ne_eq, ltS_iff]
    omega

/-- slices.SortFunc(s, f), s a step row of the call's own, f a function that orders steps by 'cf'. -/
theorem sortFuncS (cf : S → S → Int) (hO : SWO (ltOf cf)) (f : Nat) (eg : ∀ args w, (callFunc f args).run Tryz.prog w = .ok (.enter f args) w)
    (hcmp : ∀ (x y : S) (W : World), Calls Tryz.prog f #[.agg #[.int .i64 x.1, .int .i64 x.2], .agg #[.int .i64 y.1, .int .i64 y.2]] W fun e w' => e = .returned (.int .i64 (cf x y)) ∧ ∃ q os', w' = Go.Sort.grow (W.drewN q) os')
    {base g n cap : Nat} {xs : List S} {w : World} (h : w.ownsRow base 107 2 (.slice (some ⟨g, 0, none⟩) n cap) xs.length (xs.flatMap encS)) (hn : n = xs.length) (hl : xs.length ≤ 1000000) :
    Calls Tryz.prog 157 #[.slice (some ⟨g, 0, none⟩) n cap, .func (.func f) #[] #[]] w fun e w' => e = .returned (.tuple #[]) ∧
      ∃ ys : List S, ys.Perm xs ∧ ys.Pairwise (fun a b => ltOf cf b a = false) ∧ w'.ownsRow base 107 2 (.slice (some ⟨g, 0, none⟩) n cap) n (ys.flatMap encS) ∧ (∀ {w0 : World}, Below base w0 w → Below base w0 w') := by
  subst hn
  have hlt := h.lt g rfl
  have hcon := AnyQ.slices_SortFunc Tryz.sortS 2 Tryz.isAgg107 Tryz.sizeOf107 encS lenS (fun x v hv => by simp [encS] at hv; rcases hv with rfl | rfl <;> rfl) cf hO f #[] g 0 cap xs.toArray w eg
    (fun m os dk _ x y => hcmp x y _) (holdsK_own lenS (by decide) h) hlt.2 (by simpa using by omega)
  change Calls Tryz.prog 157 _ _ _ at hcon
  refine hcon.mono ?_
  rintro e w' ⟨rfl, d', m, os, hp, hs, rfl⟩
  have hsz : d'.size = xs.length := by simpa using hp.1
  refine ⟨rfl, d'.toList, ?_, ?_, ?_, fun hB => below_sortK hB hlt.1 hlt.2⟩
  · have := hp.2.2
    simp only [Array.toList_extract, List.size_toArray, List.extract_eq_take_drop, Nat.sub_zero, List.drop_zero] at this
    rw [List.take_of_length_le (by simp [hsz]), List.take_of_length_le (Nat.le_refl _)] at this
    exact this
  · rw [List.pairwise_iff_getElem]
    intro i j hi hj hij
    have := hs i j (Nat.zero_le _) hij (by simpa [← hsz] using hj)
    rw [getElem!_pos _ _ (by simpa using hj), getElem!_pos _ _ (by simpa using hi)] at this
    simpa using this
  · have := ownsRow_sortedK (m := m) (os := os) (d := d') lenS (by decide) h hsz
    simpa using this

/-- .. of whatever row of the call's own, a nil one too. -/
theorem sortFuncS_v (cf : S → S → Int) (hO : SWO (ltOf cf)) (f : Nat) (eg : ∀ args w, (callFunc f args).run Tryz.prog w = .ok (.enter f args) w)
    (hcmp : ∀ (x y : S) (W : World), Calls Tryz.prog f #[.agg #[.int .i64 x.1, .int .i64 x.2], .agg #[.int .i64 y.1, .int .i64 y.2]] W fun e w' => e = .returned (.int .i64 (cf x y)) ∧ ∃ q os', w' = Go.Sort.grow (W.drewN q) os')
    {base : Nat} {v : Value} {xs : List S} {w : World} (h : w.ownsRow base 107 2 v xs.length (xs.flatMap encS)) (hl : xs.length ≤ 1000000) :
    Calls Tryz.prog 157 #[v, .func (.func f) #[] #[]] w fun e w' => e = .returned (.tuple #[]) ∧
      ∃ ys : List S, ys.Perm xs ∧ ys.Pairwise (fun a b => ltOf cf b a = false) ∧ w'.ownsRow base 107 2 v ys.length (ys.flatMap encS) ∧ (∀ {w0 : World}, Below base w0 w → Below base w0 w') := by
  rcases h.2 with ⟨rfl, hn⟩ | ⟨g, cap, cur, rfl, r⟩
  · have hx : xs = [] := List.eq_nil_of_length_eq_zero hn
    subst hx
    have hcon := AnyF.slices_SortFunc_none Tryz.sortS none 0 (.func (.func f) #[] #[]) w
    change Calls Tryz.prog 157 _ _ _ at hcon
    refine hcon.mono ?_
    rintro e w' ⟨rfl, rfl⟩
    exact ⟨rfl, [], List.Perm.refl _, List.Pairwise.nil, h, fun hB => hB⟩
  · refine (sortFuncS cf hO f eg hcmp h rfl hl).mono ?_
    rintro e w' ⟨rfl, ys, hp, hs, ho, hB⟩
    exact ⟨rfl, ys, hp, hs, by rw [hp.length_eq]; exact ho, hB⟩

set_option maxRecDepth 100000 in
theorem compactS_nil (w : World) : Calls Tryz.prog 160 #[.slice none 0 0] w fun e w' => e = .returned (.slice none 0 0) ∧ w = w' := by
  go_enter Tryz.func160, Tryz.ntmps160
  go_wp2
  go_ret
  exact ⟨rfl, rfl⟩

theorem compactS_v {base : Nat} {v : Value} {xs : List S} {w : World} (h : w.ownsRow base 107 2 v xs.length (xs.flatMap encS)) (hl : xs.length ≤ 1000000) :
    Calls Tryz.prog 160 #[v] w fun e w' => ∃ v', e = .returned v' ∧ w'.ownsRow base 107 2 v' (cmpt xs).length ((cmpt xs).flatMap encS) ∧ (∀ {w0 : World}, Below base w0 w → Below base w0 w') := by
  rcases h.2 with ⟨rfl, hn⟩ | ⟨g, cap, cur, rfl, hbg, hg, hnc, r⟩
  · have hx : xs = [] := List.eq_nil_of_length_eq_zero hn
    subst hx
    refine (compactS_nil w).mono ?_
    rintro e w' ⟨rfl, rfl⟩
    exact ⟨_, rfl, h, fun hB => hB⟩
  · refine (compactS_any h rfl hl hbg hnc).mono ?_
    rintro e w' ⟨m, rfl, ho, rfl, hB⟩
    exact ⟨_, rfl, ho, fun hB0 => hB0.trans hB⟩


/-- slices.Compare at two lists of ints of one length. -/
def cmpL (xs ys : List Int) : Int := orL (List.zipWith cmpI xs ys)
set_option maxRecDepth 100000 in
theorem compareL_any {a a2 : Option Addr} {b off c b2 off2 c2 n : Nat} {xs ys : List Int} {w : World} (h : SlAt encI 1 w a b off xs) (h2 : SlAt encI 1 w a2 b2 off2 ys) (hx : xs.length = n) (hy : ys.length = n) (hl : n ≤ 1000000) :
    Calls Tryz.prog 159 #[.slice a n c, .slice a2 n c2] w fun e w' => e = .returned (.int .i64 (cmpL xs ys)) ∧ w = w' := by
  have HX := Lib.hid hx; have HY := Lib.hid hy
  have HZL : RowKit.Hid ((List.zipWith cmpI xs ys).length = n) := Lib.hid (by simp [hx, hy])
  go_enter Tryz.func159, Tryz.ntmps159
  clear hx hy
  go_wp2
  go_loop [5, 6, 7, 8, 11] (fun _ _ _ _ i => ∃ k : Nat, k ≤ n ∧ i = .int .i64 k ∧ (∀ j, j < k → (List.zipWith cmpI xs ys)[j]? = some 0)) (fun _ _ _ _ i => n - (intOf i).toNat)
  case atStart => exact ⟨0, Nat.zero_le _, rfl, by intro j hj; omega⟩
  case round =>
    obtain ⟨k, hk, rfl, hz⟩ := hrel
    have HZ := Lib.hid hz; clear hz
    by_cases hlt : k < n
    · obtain ⟨x, hxk⟩ := getElem?_of_lt (xs := xs) (i := k) (by have := HX.out; omega)
      obtain ⟨y, hyk⟩ := getElem?_of_lt (xs := ys) (i := k) (by have := HY.out; omega)
      obtain rfl := h.ad (by have := HX.out; omega)
      obtain rfl := h2.ad (by have := HY.out; omega)
      have hc := h.ci hxk
      have hc2 := h2.ci hyk
      have HXK : RowKit.Hid ((List.zipWith cmpI xs ys)[k]? = some (cmpI x y)) := Lib.hid (by rw [List.getElem?_zipWith, hxk, hyk])
      have hkI : (k : Int) < (n : Int) := by omega
      have hkI2 : ¬ (n : Int) ≤ (k : Int) := by omega
      have hkd : decide ((n : Int) ≤ (k : Int)) = false := by simp; omega
      clear h h2 hxk hyk
      obtain ⟨z, hz⟩ : ∃ z, z = cmpI x y := ⟨_, rfl⟩
      have HC := Lib.hid (compare_any x y w)
      rw [← hz] at HC HXK
      clear hz
      by_cases h0 : z = 0
      · subst h0
        go_wp2_with (go_at_call 93; refine HC.out.mono ?_; rintro e w' ⟨rfl, rfl⟩)
        go_round
        case rel => exact ⟨k + 1, by omega, by go_num, by
            intro j hj
            by_cases hjk : j = k
            · subst hjk; exact HXK.out
            · exact HZ.out j (by omega)⟩
        case measure => simp [intOf]; omega
      · have hb : (z != 0) = true := by simp [h0]
        have H0 := Lib.hid h0; clear h0
        go_wp2_with (go_at_call 93; refine HC.out.mono ?_; rintro e w' ⟨rfl, rfl⟩)
        go_ret
        exact ⟨ret_i (orL_at HZ.out HXK.out H0.out).symm, rfl⟩
    · clear h h2
      obtain rfl : k = n := by omega
      go_wp2
      go_ret
      exact ⟨ret_i (orL_none (fun j hj => HZ.out j (by rw [← HZL.out]; exact hj))).symm, rfl⟩

theorem slAt_lit2 {w : World} {n : Nat} {x y : Int} (h0 : w.cell? ⟨n, 0, none⟩ = some (.int .i64 x)) (h1 : w.cell? ⟨n, 1, none⟩ = some (.int .i64 y)) :
    SlAt encI 1 w (some ⟨n, 0, none⟩) n 0 [x, y] where
  ad _ := rfl
  lt _ := World.block_lt_of_cell? _ _ h0
  cell := by
    intro i v hv j u hu
    match j, hu with
    | 0, hu =>
      simp [encI] at hu; subst hu
      match i, hv with
      | 0, hv => simp at hv; subst hv; exact h0
      | 1, hv => simp at hv; subst hv; exact h1

set_option maxRecDepth 100000 in
theorem sortedFn_any (x y : S) (w : World) : Calls Tryz.prog 158 #[.agg #[.int .i64 x.1, .int .i64 x.2], .agg #[.int .i64 y.1, .int .i64 y.2]] w fun e w' => e = .returned (.int .i64 (cmpS x y)) ∧ ∃ q os', w' = Go.Sort.grow (w.drewN q) os' := by
  have hcm : cmpS x y = cmpL [x.1, x.2] [y.1, y.2] := rfl
  rw [hcm]
  obtain ⟨x1, x2⟩ := x; obtain ⟨y1, y2⟩ := y
  simp only
  go_enter Tryz.func158, Tryz.ntmps158
  go_wp2_with fail
  refine (compareL_any (n := 2) (slAt_lit2 (x := x1) (y := x2) (by simp [go_sem]) (by simp [go_sem])) (slAt_lit2 (x := y1) (y := y2) (by simp [go_sem]) (by simp [go_sem])) rfl rfl (by omega)).mono ?_
  rintro e w' ⟨rfl, rfl⟩
  go_wp2
  go_ret
  exact ⟨rfl, 0, _, by rw [Go.Sort.alloc_eq_grow, Go.Sort.alloc_eq_grow, Go.Sort.alloc_eq_grow, Go.Sort.alloc_eq_grow, Go.Sort.grow_grow, Go.Sort.grow_grow, Go.Sort.grow_grow]; rfl⟩

set_option maxRecDepth 100000 in
/-- branching.sorted. -/
theorem sortedS_any {base : Nat} {v : Value} {xs : List S} {w : World} (h : w.ownsRow base 107 2 v xs.length (xs.flatMap encS)) (hl : xs.length ≤ 1000000) :
    Calls Tryz.prog 127 #[v] w fun e w' => ∃ v', e = .returned v' ∧ w'.ownsRow base 107 2 v' (nf ltS xs).length ((nf ltS xs).flatMap encS) ∧ (∀ {w0 : World}, Below base w0 w → Below base w0 w') := by
  have eg : ∀ args w, (callFunc 158 args).run Tryz.prog w = .ok (.enter 158 args) w := enters_of Tryz.func158 (by kernel_rfl) rfl
  have HE := Lib.hid eg; clear eg
  have HO := Lib.hid h
  clear h
  go_enter Tryz.func127, Tryz.ntmps127
  go_wp2_with fail
  refine (sortFuncS_v cmpS swoS 158 HE.out (fun x y W => sortedFn_any x y W) HO.out hl).mono ?_
  rintro e w2 ⟨rfl, ys, hp, hs, hown, hB2⟩
  have hl2 : ys.length ≤ 1000000 := by rw [hp.length_eq]; exact hl
  have hfin : cmpt ys = nf ltS xs := by
    refine cmpt_eq_nf stoS ?_ (fun x => hp.mem_iff)
    exact hs.imp (fun {a b} h => by rw [ltOf_cmpS] at h; exact h)
  have HF := Lib.hid hfin
  have HO2 := Lib.hid hown
  have HB2 : RowKit.Hid (∀ {w0 : World}, Below base w0 w → Below base w0 w2) := Lib.hid hB2
  clear hp hs hfin hown hB2
  go_wp2_with (go_at_call 160; refine (compactS_v HO2.out hl2).mono ?_; rintro e w3 ⟨v3, rfl, hown3, hB4⟩)
  go_ret
  exact ⟨_, rfl, by rw [← HF.out]; exact hown3, fun hB => hB4 (HB2.out hB)⟩

end Go.Proofs.YtdhloijdefnkpaaGreatDoor

/-
  law11.CyclesEdges.
-/
import Derived.Test.YtbbjmompbmgnmaaDoorAlive11
import Derived.Test.YtbbjmompbmgnmaaDoorG12
import Derived.Deep.RegionWith
import Derived.Deep.Cut
import Derived.Deep.CutRange
import Derived.Deep.CutBlock
import Derived.Deep.RegionHeld3
import Derived.Deep.QuietTactic
import Derived.BigQuiet
import Derived.BigRegion
namespace Go.Proofs.YtbbjmompbmgnmaaDoor
open Go.RowKit Pl

/-- The row used within the loops. -/
structure UQ (W wr : World) (M : Nat) (g : Nat → Bool) : Prop where
  rows : wr.rowIs W.heap.size 4 M (fun j => .bool (g j))
  bel : Below W.heap.size W wr
theorem UQ.call {W wr w' : World} {M : Nat} {g : Nat → Bool} (h : UQ W wr M g) (hB : Below wr.heap.size wr w') : UQ W w' M g :=
  ⟨h.rows.of_block (hB.block _ h.rows.lt), h.bel.trans (hB.mono h.bel.size)⟩
theorem UQ.set {W wr : World} {M : Nat} {g : Nat → Bool} (h : UQ W wr M g) (i : Nat) (x : Bool) : UQ W (wr.setCell ⟨W.heap.size, i, none⟩ (.bool x)) M (fun j => if j = i then x else g j) :=
  ⟨(h.rows.set i (.bool x)).congr (fun j _ => by by_cases e : j = i <;> simp [e]), h.bel.setCell (Nat.le_refl _) _⟩
theorem UQ.congr {W wr : World} {M : Nat} {f g : Nat → Bool} (h : UQ W wr M f) (e : ∀ j, j < M → f j = g j) : UQ W wr M g :=
  ⟨h.rows.congr (fun j hj => by rw [e j hj]), h.bel⟩

def img (C : List Int) (L : List E) : List E := L.map (fun x => (atL C x.1, x.2.1, atL C x.2.2))
theorem img_take {C : List Int} {es : List E} {k : Nat} {x : E} (hx : es[k]? = some x) : img C (es.take (k + 1)) = img C (es.take k) ++ [(atL C x.1, x.2.1, atL C x.2.2)] := by
  rw [take_snoc hx]; unfold img; rw [List.map_append]; rfl
/-- Which of the collapsed system's edges come from one of L. -/
def usedBy (T : List E) (L : List E) (j : Nat) : Bool := decide (∃ y ∈ L, T[j]? = some y)
theorem usedBy_nil (T : List E) (j : Nat) : usedBy T [] j = false := by simp [usedBy]
theorem usedBy_snoc (T L : List E) (y : E) (j : Nat) : usedBy T (L ++ [y]) j = (usedBy T L j || decide (T[j]? = some y)) := by
  unfold usedBy
  rw [Bool.eq_iff_iff]
  simp only [decide_eq_true_eq, Bool.or_eq_true, List.mem_append, List.mem_singleton]
  constructor
  · rintro ⟨z, h | rfl, h2⟩
    · exact .inl ⟨z, h, h2⟩
    · exact .inr h2
  · rintro (⟨z, h, h2⟩ | h)
    · exact ⟨z, .inl h, h2⟩
    · exact ⟨y, .inr rfl, h⟩
theorem usedBy_all {C : List Int} {es : List E} {j : Nat} (hj : j < (nf ltE (colE C es)).length) : usedBy (nf ltE (colE C es)) (img C es) j = true := by
  obtain ⟨y, hy⟩ := getElem?_of_lt hj
  have h1 := (mem_nf stoE _ _).1 (List.mem_of_getElem? hy)
  obtain ⟨x, hx, he, _⟩ := mem_colE.1 h1
  unfold usedBy
  rw [decide_eq_true_eq]
  exact ⟨y, List.mem_map.2 ⟨x, hx, he.symm⟩, hy⟩
theorem found_iff {C : List Int} {es : List E} {x : E} (hx : x ∈ es) : decide ((atL C x.1, x.2.1, atL C x.2.2) ∈ nf ltE (colE C es)) = !(decide (x.2.1 = 0) && decide (atL C x.1 = atL C x.2.2)) := by
  rw [Bool.eq_iff_iff, decide_eq_true_eq, mem_nf stoE, mem_colE]
  simp only [Bool.not_eq_true', Bool.and_eq_false_iff, decide_eq_false_iff_not]
  constructor
  · rintro ⟨y, _, _, h⟩
    by_cases h1 : x.2.1 = 0
    · exact .inr (fun h2 => h ⟨h1, h2⟩)
    · exact .inl h1
  · rintro h
    exact ⟨x, hx, rfl, fun h2 => h.elim (fun h3 => h3 h2.1) (fun h3 => h3 h2.2)⟩
theorem memt_take {T : List E} {k : Nat} {x t : E} (hx : T[k]? = some x) : decide (t ∈ T.take (k + 1)) = (decide (t ∈ T.take k) || decide (x = t)) := by
  rw [Bool.eq_iff_iff]
  simp only [decide_eq_true_eq, Bool.or_eq_true]
  rw [take_snoc hx, List.mem_append, List.mem_singleton]
  exact or_congr Iff.rfl eq_comm

theorem used_step {T : List E} {y tgt : E} {i : Nat} (hy : T[i]? = some y) (j : Nat) : (decide (j < i + 1) && decide (T[j]? = some tgt)) = ((decide (j < i) && decide (T[j]? = some tgt)) || (decide (j = i) && decide (y = tgt))) := by
  by_cases h : j = i
  · subst h; simp [hy]
  · have h1 : decide (j < i + 1) = decide (j < i) := by
      by_cases h2 : j < i
      · simp [h2]; omega
      · simp [h2]; omega
    simp [h, h1]

/-- The world within CyclesEdges behind the collapse. -/
structure EIn (w wr : World) (n lb z : Int) (v : Value) (m : Int) (t : Lts) (B : Nat) (ea : Option Addr) (eb ec : Nat) (ca : Option Addr) (cb : Nat) (C : List Int) (sa : Option Addr) (sb so : Nat) (es : List E) : Prop where
  bel : Below w.heap.size w wr
  box : wr.heap[w.heap.size]? = some (.cells #[.int .i64 n, .int .i64 lb, .int .i64 z, v] 24 (0, 0))
  tb : wr.heap[B]? = some (.cells #[.int .i64 m, .int .i64 t.lb, .int .i64 t.s0, .slice ea t.es.length ec] 24 (0, 0))
  te : SlAt encE 3 wr ea eb 0 t.es
  cs : SlAt encI 1 wr ca cb 0 C
  ss : SlAt encE 3 wr sa sb so es
theorem EIn.call {w wr w' : World} {n lb z : Int} {v : Value} {m : Int} {t : Lts} {B : Nat} {ea : Option Addr} {eb ec : Nat} {ca : Option Addr} {cb : Nat} {C : List Int} {sa : Option Addr} {sb so : Nat} {es : List E}
    (h : EIn w wr n lb z v m t B ea eb ec ca cb C sa sb so es) (hB : Below wr.heap.size wr w') : EIn w w' n lb z v m t B ea eb ec ca cb C sa sb so es :=
  ⟨h.bel.trans (hB.mono h.bel.size), by rw [hB.block _ (Array.getElem?_eq_some_iff.1 h.box).1]; exact h.box, by rw [hB.block _ (Array.getElem?_eq_some_iff.1 h.tb).1]; exact h.tb, h.te.below hB (Nat.le_refl _), h.cs.below hB (Nat.le_refl _), h.ss.below hB (Nat.le_refl _)⟩

set_option maxRecDepth 100000 in
set_option maxHeartbeats 4000000 in
theorem cyclesEdges_any {w : World} {p : Addr} (hG : GErr 0 p w) (hT : ErrType w) {s : Lts} {a : Option Addr} {b off c : Nat} (hS : SlAt encE 3 w a b off s.es) :
    Calls Tryd.prog 6 #[.agg #[.int .i64 s.st, .int .i64 s.lb, .int .i64 s.s0, .slice a s.es.length c]] w fun e w' => e = .returned (.bool true) ∧ Below w.heap.size w w' := by
  have hB0 := (Below.refl w.heap.size w).alloc (Nat.le_refl _) (Obj.cells #[.int .i64 s.st, .int .i64 s.lb, .int .i64 s.s0, .slice a s.es.length c] 24)
  have hbx := heap_alloc_new w (Obj.cells #[.int .i64 s.st, .int .i64 s.lb, .int .i64 s.s0, .slice a s.es.length c] 24)
  have HG := Lib.hid hG; have HT := Lib.hid (hT.below hB0); have HS := Lib.hid (hS.below hB0 (Nat.le_refl _)); have HB0 := Lib.hid hB0; have HBX := Lib.hid hbx
  clear hG hT hS hB0 hbx
  have ALV : RowKit.Hid (∀ w1 : World, Below w.heap.size w w1 → Calls Tryd.prog 19 #[] w1 fun e w' => e = .returned (.bool true) ∧ Below w.heap.size w w' ∧ Below w1.heap.size w1 w') := Lib.hid (by
    intro w1 h1
    refine (alive11_any (HG.out.below h1)).mono ?_
    rintro e w' ⟨rfl, hB⟩
    exact ⟨rfl, h1.trans (hB.mono h1.size), hB⟩)
  by_cases h60 : 60 < s.st
  · go_enter Tryd.func6, Tryd.ntmps6
    go_wp2_with fail
    refine (ALV.out _ HB0.out).mono ?_
    rintro e w1 ⟨rfl, hB, _⟩
    go_wp2
    go_ret
    exact ⟨rfl, hB⟩
  by_cases h300 : 300 < s.es.length
  · have hi : (300 : Int) < (s.es.length : Int) := by omega
    go_enter Tryd.func6, Tryd.ntmps6
    go_wp2_with fail
    refine (ALV.out _ HB0.out).mono ?_
    rintro e w1 ⟨rfl, hB, _⟩
    go_wp2
    go_ret
    exact ⟨rfl, hB⟩
  have hi : ¬ (300 : Int) < (s.es.length : Int) := by omega
  by_cases hr : s.Right
  case neg =>
    go_enter Tryd.func6, Tryd.ntmps6
    go_wp2_with fail
    refine (collapseNo_any (c := c) hr (HG.out.below HB0.out) HT.out HS.out).mono ?_
    rintro e w1 ⟨v, rfl, hF, hB1⟩
    obtain ⟨vi, hf1, hf2⟩ := id hF
    obtain ⟨fb, rfl, _⟩ := hf1.ex
    have HB1 := Lib.hid (HB0.out.trans (hB1.mono (by simp)))
    have HB2 := Lib.hid (bAlloc HB1.out (.cells #[.int .i64 0, .int .i64 0, .int .i64 0, .slice none 0 0] 24))
    clear hf1 hf2 hF hB1 hr
    go_wp2_with fail
    refine (ALV.out _ HB2.out).mono ?_
    rintro e w2 ⟨rfl, hB, _⟩
    go_wp2
    go_ret
    exact ⟨rfl, hB⟩
  case pos =>
  have hst := hr.st0
  obtain ⟨n, hn⟩ : ∃ n : Nat, s.st = (n : Int) := ⟨s.st.toNat, by omega⟩
  obtain ⟨z, hz⟩ : ∃ z : Nat, s.s0 = (z : Int) := ⟨s.s0.toNat, by omega⟩
  have hn60 : n ≤ 60 := by omega
  have hz0 : z = 0 ∨ z < n := by omega
  have HCO := Lib.hid (collapseYes_any (c := c) hr hn (HG.out.below HB0.out) HS.out)
  have HR := Lib.hid hr; have HN := Lib.hid hn; have HZ := Lib.hid hz
  rw [hn, hz] at HCO HB0 HBX HS HT ⊢
  clear hr hn hz hst h60
  obtain ⟨el, hel⟩ : ∃ el, el = s.es.length := ⟨_, rfl⟩
  have hel3 : el ≤ 300 := by omega
  have HEL := Lib.hid hel
  rw [← hel] at HCO HB0 HBX HS HT hi ⊢
  clear hel h300
  have hn60' : ¬ (60 : Int) < (n : Int) := by omega
  go_enter Tryd.func6, Tryd.ntmps6
  go_wp2_with fail
  refine HCO.out.mono ?_
  rintro e w1 ⟨f, v, ve, hcyc, rfl, hown, howne, hB1⟩
  obtain ⟨C, hC⟩ : ∃ C, C = fl n (clf n f) := ⟨_, rfl⟩
  have hCl : C.length = n := by rw [hC, fl_len]
  rw [← hC] at hown howne ⊢
  obtain ⟨t, ht⟩ : ∃ t, t = col s C := ⟨_, rfl⟩
  rw [← ht] at howne ⊢
  have hown' : w1.ownsRow (w.alloc (Obj.cells #[.int .i64 n, .int .i64 s.lb, .int .i64 z, .slice a el c] 24)).heap.size 3 1 v C.length (C.flatMap encI) := by rw [hCl]; exact hown
  obtain ⟨ca, cc, cb, rfl, _, _, hcs, _⟩ := slAt_own lenI hown'
  obtain ⟨ea, ec, eb, rfl, _, _, hes, _⟩ := slAt_own lenE howne
  rw [hCl] at hown ⊢
  obtain ⟨tl, htl⟩ : ∃ tl, tl = t.es.length := ⟨_, rfl⟩
  have htl3 : tl ≤ 300 := by
    rw [htl, ht]
    have h1 := colE_len C s.es
    have h2 := length_nf (lt := ltE) (colE C s.es)
    have h3 := HEL.out
    show (nf ltE (colE C s.es)).length ≤ 300
    omega
  have hx1 := (hB1.block w.heap.size (by simp)).trans HBX.out
  have hb1 := HB0.out.trans (hB1.mono (by simp))
  have hBe := bAlloc (Below.refl w1.heap.size w1) (Obj.cells #[.int .i64 t.st, .int .i64 t.lb, .int .i64 t.s0, .slice ea t.es.length ec] 24)
  have hN0 : EIn w (w1.alloc (Obj.cells #[.int .i64 t.st, .int .i64 t.lb, .int .i64 t.s0, .slice ea t.es.length ec] 24)) n s.lb z (.slice a el c) t.st t w1.heap.size ea eb ec ca cb C a b off s.es :=
    ⟨hb1.trans (hBe.mono hb1.size), (hBe.block w.heap.size (Array.getElem?_eq_some_iff.1 hx1).1).trans hx1, heap_alloc_new w1 _, hes.below hBe (Nat.le_refl _), hcs.below hBe (Nat.le_refl _), (HS.out.below hB1 (Nat.le_refl _)).below hBe (Nat.le_refl _)⟩
  have HNI := Lib.hid hN0
  obtain ⟨tb, htb⟩ : ∃ tb, tb = w1.heap.size := ⟨_, rfl⟩
  rw [← htb] at HNI
  have HTB := Lib.hid htb
  have HC := Lib.hid hC; have HCL := Lib.hid hCl; have HTT := Lib.hid ht; have HTL := Lib.hid htl
  have hmk := run_make_row' (P := Tryd.prog) 42 4 (.bool false) 1 Tryd.underlying42 (by kernel_rfl) rfl .i64 .i64 tl (by omega) (by omega)
  clear hC hCl ht hcyc hown hown' howne hcs hes hx1 hb1 hBe hB1 HCO HBX HB0 HS HT hN0 htb
  rw [← htl]
  clear htl
  go_upto_region 4 with fail
  obtain ⟨W, hW⟩ : ∃ W, W = w1.alloc (Obj.cells #[.int .i64 t.st, .int .i64 t.lb, .int .i64 t.s0, .slice ea tl ec] 24) := ⟨_, rfl⟩
  rw [← HTL.out, ← hW] at HNI
  rw [← hW, ← HTB.out]
  clear hW
  obtain ⟨x0, x1, x2, x3, x4⟩ := sysC HNI.out.box
  obtain ⟨y0, y1, y2, y3, y4⟩ := sysC HNI.out.tb
  rw [← HTL.out] at y3
  go_wp2_with fail
  have hUQ : UQ W (W.alloc (Obj.cells (madeCells #[.bool false] tl) 4)) tl (usedBy t.es (img C (s.es.take 0))) := by
    refine ⟨?_, bAlloc (Below.refl _ _) _⟩
    exact (World.rowIs_made W (.bool false) tl 4).congr (fun j _ => by rw [List.take_zero]; exact congrArg Value.bool (usedBy_nil t.es j).symm)
  have HUQ := Lib.hid hUQ
  clear hmk hUQ x0 x1 x2 x3 x4 y0 y1 y2 y3 y4
  go_loopw [8, 9, 10, 11, 50] (fun _ _ _ _ v50 wr => ∃ k : Nat, v50 = .int .i64 k ∧ k ≤ el ∧ UQ W wr tl (usedBy t.es (img C (s.es.take k))))
    (fun _ _ _ _ v50 _ => el - (intOf v50).toNat)
  case atStart => exact ⟨0, rfl, Nat.zero_le _, HUQ.out⟩
  case round =>
    obtain ⟨k, rfl, hk, huq⟩ := hrel
    have HU := Lib.hid huq
    have hszr := huq.bel.size
    have hur := huq.rows.lt
    clear huq HUQ
    by_cases hlt : k < el
    · obtain ⟨x, hx⟩ := getElem?_of_lt (xs := s.es) (i := k) (by have := HEL.out; omega)
      have HNR := Lib.hid (HNI.out.call HU.out.bel)
      have hsr := HNR.out.ss
      obtain rfl := hsr.ad (by have := HEL.out; omega)
      have d0 := hsr.e0 hx; have d1 := hsr.e1 hx; have d2 := hsr.e2 hx
      have hbl := hsr.lt (by have := HEL.out; omega)
      have hxr := offB_false.1 (HR.out.edges x (List.mem_of_getElem? hx))
      have hfi := found_iff (C := C) (List.mem_of_getElem? hx)
      have hit := img_take (C := C) hx
      have hstn := HN.out
      obtain ⟨x1', x2', x3'⟩ := x
      simp only at hxr d0 d1 d2 hfi hit
      obtain ⟨i1, rfl⟩ := Int.eq_ofNat_of_zero_le hxr.1
      obtain ⟨i3, rfl⟩ := Int.eq_ofNat_of_zero_le hxr.2.2.2.2.1
      have h1n : i1 < n := by omega
      have h3n : i3 < n := by omega
      have h1n' : (i1 : Int) < (n : Int) := by omega
      have h3n' : (i3 : Int) < (n : Int) := by omega
      have a1e : atL C (i1 : Int) = clf n f i1 := by rw [HC.out, atL_fl (by omega) (by omega)]; rfl
      have a3e : atL C (i3 : Int) = clf n f i3 := by rw [HC.out, atL_fl (by omega) (by omega)]; rfl
      have hcr := HNR.out.cs
      have hCl := HCL.out
      obtain rfl := hcr.ad (by omega)
      have g1 := hcr.ci (i := i1) (x := clf n f i1) (by rw [HC.out]; exact fl_get _ h1n)
      have g3 := hcr.ci (i := i3) (x := clf n f i3) (by rw [HC.out]; exact fl_get _ h3n)
      have gl := hcr.lt (by omega)
      simp only [Nat.zero_add] at g1 g3
      rw [a1e, a3e] at hfi hit
      obtain ⟨c1, hc1⟩ : ∃ c1, c1 = clf n f i1 := ⟨_, rfl⟩
      obtain ⟨c3, hc3⟩ : ∃ c3, c3 = clf n f i3 := ⟨_, rfl⟩
      rw [← hc1] at g1 hfi hit; rw [← hc3] at g3 hfi hit
      have hki : (k : Int) < (el : Int) := by omega
      have HFI := Lib.hid hfi; have HIT := Lib.hid hit
      clear hx hsr hxr hstn hfi hit a1e a3e hc1 hc3 hcr hCl
      go_wp2_with fail
      go_region
      obtain ⟨wo, hwo⟩ : ∃ wo, wo = wr := ⟨_, rfl⟩
      subst hwo
      have hB3 := (bAlloc (bAlloc (Below.refl _ wo) (.cells #[.int .i64 i1, .int .i64 x2', .int .i64 i3] 35)) (.cells #[.int .i64 c1, .int .i64 x2', .int .i64 c3] 35)).drew
      have hx3 := heap_alloc_new (wo.alloc (.cells #[.int .i64 i1, .int .i64 x2', .int .i64 i3] 35)) (.cells #[.int .i64 c1, .int .i64 x2', .int .i64 c3] 35)
      rw [show (wo.alloc (.cells #[.int .i64 i1, .int .i64 x2', .int .i64 i3] 35)).heap.size = wo.heap.size + 1 by simp] at hx3
      obtain ⟨W3, hW3⟩ : ∃ W3, W3 = ((wo.alloc (.cells #[.int .i64 i1, .int .i64 x2', .int .i64 i3] 35)).alloc (.cells #[.int .i64 c1, .int .i64 x2', .int .i64 c3] 35)).drew := ⟨_, rfl⟩
      have hx4 : W3.heap[wo.heap.size + 1]? = some (.cells #[.int .i64 c1, .int .i64 x2', .int .i64 c3] 35 (0, 0)) := by rw [hW3]; exact hx3
      rw [← hW3] at hB3 ⊢
      obtain ⟨UK, hUK⟩ : ∃ UK, UK = usedBy t.es (img C (s.es.take k)) := ⟨_, rfl⟩
      have hu3 : UQ W W3 tl (fun j => UK j || (decide (j < 0) && decide (t.es[j]? = some (c1, x2', c3)))) := (HU.out.call hB3).congr (fun j _ => by rw [hUK]; simp)
      have HU3 := Lib.hid hu3; have HX4 := Lib.hid hx4; have HUK := Lib.hid hUK
      have hy4 : W3.cell? ⟨tb, 3, none⟩ = some (.slice ea tl ec) := by
        obtain ⟨_, _, _, y3, _⟩ := sysC ((HNR.out.call hB3).tb)
        rw [HTL.out]; exact y3
      clear hB3 hx3 hx4 hu3 hUK hW3 d0 d1 d2 g1 g3 gl hbl HU h1n h3n h1n' h3n' hki hur
      go_upto_block 2 with fail
      obtain ⟨bf, hbf⟩ : ∃ bf : Bool, bf = !(decide (x2' = 0) && decide (c1 = c3)) := ⟨_, rfl⟩
      have HBF := Lib.hid hbf
      clear hbf
      go_cut [10, 11] from 67 to 83 (fun s10 _ wx => s10 = .bool bf ∧ UQ W wx tl (usedBy t.es (img C (s.es.take (k + 1)))) ∧ wx.heap[wo.heap.size + 1]? = some (.cells #[.int .i64 c1, .int .i64 x2', .int .i64 c3] 35 (0, 0)))
      case first =>
       as_aux_lemma =>
        go_wp2_with fail
        clear hy4
        go_loopw [10, 11] (fun v10 v11 wx => ∃ i : Nat, v11 = .int .i64 i ∧ i ≤ tl ∧ v10 = .bool (decide ((c1, x2', c3) ∈ t.es.take i)) ∧ UQ W wx tl (fun j => UK j || (decide (j < i) && decide (t.es[j]? = some (c1, x2', c3)))) ∧ (∀ b, b ≠ W.heap.size → wx.heap[b]? = W3.heap[b]?) ∧ wx.heap.size = W3.heap.size)
          (fun _ v11 _ => tl - (intOf v11).toNat)
        case atStart => exact ⟨0, rfl, Nat.zero_le _, by simp, HU3.out, fun _ _ => rfl, rfl⟩
        case round =>
          obtain ⟨i, rfl, hi2, hfd, hux, hoth, hsz⟩ := hrel
          obtain ⟨bb, hbb⟩ : ∃ bb, bb = decide ((c1, x2', c3) ∈ t.es.take i) := ⟨_, rfl⟩
          rw [← hbb] at hfd
          subst hfd
          have HBB := Lib.hid hbb
          clear hbb
          have HUX := Lib.hid hux; have HOTH := Lib.hid hoth; have HSZ := Lib.hid hsz
          have hxx := (hoth (wo.heap.size + 1) (by omega)).trans HX4.out
          have q0 : wr.cell? ⟨wo.heap.size + 1, 0, none⟩ = some (.int .i64 c1) := by simp [World.cell?, hxx]
          have q1 : wr.cell? ⟨wo.heap.size + 1, 1, none⟩ = some (.int .i64 x2') := by simp [World.cell?, hxx]
          have q2 : wr.cell? ⟨wo.heap.size + 1, 2, none⟩ = some (.int .i64 c3) := by simp [World.cell?, hxx]
          have ql := (Array.getElem?_eq_some_iff.1 hxx).1
          have hEX := HNI.out.call hux.bel
          obtain ⟨y0, y1, y2, y3, y4⟩ := sysC hEX.tb
          rw [← HTL.out] at y3
          have hul := hux.rows.lt
          have HEX := Lib.hid hEX
          clear hux hoth hsz hxx hEX y0 y1 y2
          by_cases hit : i < tl
          · obtain ⟨y, hy⟩ := getElem?_of_lt (xs := t.es) (i := i) (by have := HTL.out; omega)
            have her := HEX.out.te
            obtain rfl := her.ad (by have := HTL.out; omega)
            have p0 := her.e0 hy; have p1 := her.e1 hy; have p2 := her.e2 hy
            have pl := her.lt (by have := HTL.out; omega)
            simp only [Nat.zero_add] at p0 p1 p2
            have hmt := memt_take (t := ((c1, x2', c3) : E)) hy
            have hj : RowKit.Hid (t.es[i]? = some y) := Lib.hid hy
            obtain ⟨cc', hcc⟩ : ∃ cc', cc' = decide (y = ((c1, x2', c3) : E)) := ⟨_, rfl⟩
            have hq : ∀ w, (binOp .eql 35 (.agg #[.int .i64 y.1, .int .i64 y.2.1, .int .i64 y.2.2]) (.agg #[.int .i64 c1, .int .i64 x2', .int .i64 c3])).run Tryd.prog w = .ok (.bool cc') w := fun w => by rw [hcc]; exact eqlE y ((c1, x2', c3) : E) w
            have hgd := guardE
            have hit2 : (i : Int) < (tl : Int) := by omega
            rw [← hcc, ← HBB.out] at hmt
            obtain ⟨y1', y2', y3'⟩ := y
            simp only at p0 p1 p2 hq
            have HMT := Lib.hid hmt; have HCC := Lib.hid hcc
            clear hmt hcc hy her
            go_wp2_with fail
            go_quiet (fail)
            obtain ⟨wy, hwy⟩ : ∃ wy, wy = wr.drewN nq := ⟨_, rfl⟩
            have huy : UQ W wy tl (fun j => UK j || (decide (j < i) && decide (t.es[j]? = some (c1, x2', c3)))) := by rw [hwy]; exact HUX.out.call (bdrew (Below.refl _ _))
            have hoy : ∀ b, b ≠ W.heap.size → wy.heap[b]? = W3.heap[b]? := by rw [hwy]; exact HOTH.out
            have hsy : wy.heap.size = W3.heap.size := by rw [hwy]; exact HSZ.out
            rw [← hwy]
            have HUY := Lib.hid huy; have HOY := Lib.hid hoy; have HSY := Lib.hid hsy
            have g1 := huy.rows.cell hit
            have g2 := huy.rows.frozen i
            have hul2 := huy.rows.lt
            clear hwy huy hoy hsy p0 p1 p2 pl q0 q1 q2 ql y3 y4 hul HUX HOTH HEX HSZ hq hgd
            cases cc'
            · have h7 : UQ W wy tl (fun j => UK j || (decide (j < i + 1) && decide (t.es[j]? = some (c1, x2', c3)))) := HUY.out.congr (fun j _ => by
                rw [used_step hj.out, ← HCC.out]; simp)
              have H7 := Lib.hid h7
              clear h7 g1 g2
              go_wp2_with fail
              go_roundw
              case rel => exact ⟨i + 1, by go_num, by omega, by rw [HMT.out]; simp, H7.out, HOY.out, HSY.out⟩
              case measure => simp [intOf]; omega
            · have h7 : UQ W (wy.setCell ⟨W.heap.size, i, none⟩ (.bool true)) tl (fun j => UK j || (decide (j < i + 1) && decide (t.es[j]? = some (c1, x2', c3)))) := (HUY.out.set i true).congr (fun j _ => by
                rw [used_step hj.out, ← HCC.out]
                by_cases e : j = i
                · subst e; simp
                · simp [e])
              have H7 := Lib.hid h7
              clear h7
              go_wp2_with fail
              go_roundw
              case rel => exact ⟨i + 1, by go_num, by omega, by rw [HMT.out]; simp, H7.out, fun b hb => by rw [Below.heap_setCell _ _ _ _ hb]; exact HOY.out b hb, by rw [size_setCell]; exact HSY.out⟩
              case measure => simp [intOf]; omega
          · have hii : tl = i := by omega
            subst hii
            have hfnd : bb = bf := by
              rw [HBB.out, HTL.out, List.take_length, HBF.out, ← HFI.out, HTT.out]; rfl
            have hun : UQ W wr tl (usedBy t.es (img C (s.es.take (k + 1)))) := HUX.out.congr (fun j hj => by
              rw [HIT.out, usedBy_snoc, HUK.out]; simp [hj])
            have HUN := Lib.hid hun
            have hxx2 := (HOTH.out (wo.heap.size + 1) (by omega)).trans HX4.out
            have HXX := Lib.hid hxx2
            subst hfnd
            clear hun HUX HOTH HBB HEX HSZ HFI HIT HUK HX4 HU3 HNR hlt hxx2
            go_wp2_with fail
            go_meet
            exact ⟨rfl, HUN.out, HXX.out⟩
      case rest =>
       as_aux_lemma =>
        obtain ⟨rfl, hun, hxx⟩ := hcut
        have HUN := Lib.hid hun
        have q0 : wc.cell? ⟨wo.heap.size + 1, 0, none⟩ = some (.int .i64 c1) := by simp [World.cell?, hxx]
        have q1 : wc.cell? ⟨wo.heap.size + 1, 1, none⟩ = some (.int .i64 x2') := by simp [World.cell?, hxx]
        have q2 : wc.cell? ⟨wo.heap.size + 1, 2, none⟩ = some (.int .i64 c3) := by simp [World.cell?, hxx]
        have ql := (Array.getElem?_eq_some_iff.1 hxx).1
        clear hun hxx HU3 HX4 HUK HFI HIT HNR hszr
        by_cases hx0 : x2' = 0
        · by_cases hc0 : c1 = c3
          · have hb : bf = false := by rw [HBF.out]; simp [hx0, hc0]
            clear HBF
            subst hb
            have hb1 : (x2' == 0) = true := by simp [hx0]
            have hb2 : (c1 == c3) = true := by simp [hc0]
            clear hx0 hc0
            go_wp2_with fail
            go_roundw
            case rel => exact ⟨k + 1, by go_num, by omega, HUN.out⟩
            case measure => simp [intOf]; omega
          · have hb : bf = true := by rw [HBF.out]; simp [hc0]
            clear HBF
            subst hb
            have hb1 : (x2' == 0) = true := by simp [hx0]
            have hb2 : (c1 == c3) = false := by simp [hc0]
            clear hx0 hc0
            go_wp2_with fail
            go_roundw
            case rel => exact ⟨k + 1, by go_num, by omega, HUN.out⟩
            case measure => simp [intOf]; omega
        · have hb : bf = true := by rw [HBF.out]; simp [hx0]
          clear HBF
          subst hb
          have hb1 : (x2' == 0) = false := by simp [hx0]
          clear hx0
          go_wp2_with fail
          go_roundw
          case rel => exact ⟨k + 1, by go_num, by omega, HUN.out⟩
          case measure => simp [intOf]; omega
    · as_aux_lemma =>
        have hkk : el = k := by omega
        subst hkk
        obtain ⟨wq, hwq⟩ : ∃ wq, wq = wr := ⟨_, rfl⟩
        subst hwq
        have hall : ∀ j, j < tl → usedBy t.es (img C (s.es.take el)) j = true := fun j hj => by
          rw [HEL.out, List.take_length, HTT.out]
          exact usedBy_all (by rw [HTL.out, HTT.out] at hj; exact hj)
        have huf : UQ W wq tl (fun _ => true) := HU.out.congr hall
        have HUF := Lib.hid huf
        clear HU hall huf
        go_wp2_with fail
        go_loopw [12] (fun v12 wx => ∃ i : Nat, wq = wx ∧ v12 = .int .i64 i ∧ i ≤ tl) (fun v12 _ => tl - (intOf v12).toNat)
        case atStart => exact ⟨0, rfl, rfl, Nat.zero_le _⟩
        case round =>
          obtain ⟨i, rfl, rfl, hi2⟩ := hrel
          by_cases hit : i < tl
          · have g1 := HUF.out.rows.cell hit
            have gl := HUF.out.rows.lt
            have hit2 : (i : Int) < (tl : Int) := by omega
            go_wp2_with fail
            go_roundw
            case rel => exact ⟨i + 1, by trivial, by go_num, by omega⟩
            case measure => simp [intOf]; omega
          · have hii : tl = i := by omega
            subst hii
            have HQN := Lib.hid (HNI.out.call HUF.out.bel)
            have f2 : (t.lb == s.lb) = true := by rw [HTT.out]; simp [col]
            clear HUF HNI
            have ALVQ : RowKit.Hid (∀ W2, Below wq.heap.size wq W2 → Calls Tryd.prog 19 #[] W2 fun e w' => e = .returned (.bool true) ∧ Below wq.heap.size wq w') := Lib.hid (fun W2 h2 => by
              refine (ALV.out W2 (HQN.out.bel.trans (h2.mono HQN.out.bel.size))).mono ?_
              rintro e w' ⟨rfl, _, hB⟩
              exact ⟨rfl, h2.trans (hB.mono h2.size)⟩)
            by_cases hn0 : n = 0
            · have f1 : ((n : Int) == 0) = true := by simp [hn0]
              have hkeep : ∀ w', Below wq.heap.size wq w' → (w'.cell? ⟨w.heap.size, 0, none⟩ = some (.int .i64 n) ∧ w'.cell? ⟨w.heap.size, 1, none⟩ = some (.int .i64 s.lb) ∧ w'.cell? ⟨tb, 1, none⟩ = some (.int .i64 t.lb) ∧ Below wq.heap.size wq w') := fun w' h => by
                obtain ⟨a0, a1, a2, a3, _⟩ := sysC (HQN.out.call h).box
                obtain ⟨b0, b1, b2, b3, _⟩ := sysC (HQN.out.call h).tb
                exact ⟨a0, a1, b1, h⟩
              have HK := Lib.hid hkeep
              clear hkeep hn0
              go_wp2_with fail
              refine wp_region_held_drew (S := fun w' => w'.cell? ⟨w.heap.size, 0, none⟩ = some (.int .i64 n) ∧ w'.cell? ⟨w.heap.size, 1, none⟩ = some (.int .i64 s.lb) ∧ w'.cell? ⟨tb, 1, none⟩ = some (.int .i64 t.lb) ∧ Below wq.heap.size wq w') (by kernel_rfl) (HK.out _ (Below.refl _ _).drew) (fun hHeld => ?_)
              refine wpAnyH_ready (rs := [0]) (by kernel_rfl) (by simp) ?_
              refine AllReadyH.cons rfl (fun K hK => ?_) AllReadyH.nil
              go_simp
              go_at_call 19
              refine (ALVQ.out _ hHeld.2.2.2).mono ?_
              rintro e w8 ⟨rfl, hB8⟩
              refine hK.out _ _ (HK.out _ hB8) (fun hHeld => ?_)
              clear hK K
              try simp only [List.getElem_toArray, List.getElem_cons_zero, List.getElem_cons_succ, Act.put, List.setIfInBounds_toArray, List.set_cons_zero, List.set_cons_succ]
              refine wpAnyH_take (i := 1) (v := ?_) rfl (by kernel_rfl) (by kernel_rfl) (by kernel_rfl) (fun _ _ _ h => h) (Or.inl ⟨by rfl, ?_⟩) (by assumption) ?_
              rotate_left
              · intro w hSw
                try dsimp only at hSw
                go_simp
                try with_reducible rfl
              try simp only [List.getElem_toArray, List.getElem_cons_zero, List.getElem_cons_succ, Act.put, List.setIfInBounds_toArray, List.set_cons_zero, List.set_cons_succ]
              refine wpAnyH_take (i := 2) (v := ?_) rfl (by kernel_rfl) (by kernel_rfl) (by kernel_rfl) (fun _ _ _ h => h) (Or.inl ⟨by rfl, ?_⟩) (by assumption) ?_
              rotate_left
              · intro w hSw
                try dsimp only at hSw
                go_simp
                try with_reducible rfl
              try simp only [List.getElem_toArray, List.getElem_cons_zero, List.getElem_cons_succ, Act.put, List.setIfInBounds_toArray, List.set_cons_zero, List.set_cons_succ]
              refine wpAnyH_take (i := 3) (v := ?_) rfl (by kernel_rfl) (by kernel_rfl) (by kernel_rfl) (fun _ _ _ h => h) (Or.inl ⟨by rfl, ?_⟩) (by assumption) ?_
              rotate_left
              · intro w hSw
                try dsimp only at hSw
                go_simp
                try with_reducible rfl
              try simp only [List.getElem_toArray, List.getElem_cons_zero, List.getElem_cons_succ, Act.put, List.setIfInBounds_toArray, List.set_cons_zero, List.set_cons_succ]
              refine wpAnyH_take (i := 4) (v := ?_) rfl (by kernel_rfl) (by kernel_rfl) (by kernel_rfl) (fun _ _ _ h => h) (Or.inl ⟨by rfl, ?_⟩) (by assumption) ?_
              rotate_left
              · intro w hSw
                try dsimp only at hSw
                go_simp
                try with_reducible rfl
              try simp only [List.getElem_toArray, List.getElem_cons_zero, List.getElem_cons_succ, Act.put, List.setIfInBounds_toArray, List.set_cons_zero, List.set_cons_succ]
              refine wpAnyH_take (i := 5) (v := ?_) rfl (by kernel_rfl) (by kernel_rfl) (by kernel_rfl) (fun _ _ _ h => h) (Or.inl ⟨by rfl, ?_⟩) (by assumption) ?_
              rotate_left
              · intro w hSw
                try dsimp only at hSw
                go_simp
                try with_reducible rfl
              try simp only [List.getElem_toArray, List.getElem_cons_zero, List.getElem_cons_succ, Act.put, List.setIfInBounds_toArray, List.set_cons_zero, List.set_cons_succ]
              refine wpAnyH_take (i := 6) (v := ?_) rfl (by kernel_rfl) (by kernel_rfl) (by kernel_rfl) (fun _ _ _ h => h) (Or.inl ⟨by rfl, ?_⟩) (by assumption) ?_
              rotate_left
              · intro w hSw
                try dsimp only at hSw
                go_simp
                try with_reducible rfl
              try simp only [List.getElem_toArray, List.getElem_cons_zero, List.getElem_cons_succ, Act.put, List.setIfInBounds_toArray, List.set_cons_zero, List.set_cons_succ]
              refine wpAnyH_take (i := 7) (v := ?_) rfl (by kernel_rfl) (by kernel_rfl) (by kernel_rfl) (fun _ _ _ h => h) (Or.inl ⟨by rfl, ?_⟩) (by assumption) ?_
              rotate_left
              · intro w hSw
                try dsimp only at hSw
                go_simp
                try with_reducible rfl
              try simp only [List.getElem_toArray, List.getElem_cons_zero, List.getElem_cons_succ, Act.put, List.setIfInBounds_toArray, List.set_cons_zero, List.set_cons_succ]
              refine wpAnyH_take (i := 8) (v := ?_) rfl (by kernel_rfl) (by kernel_rfl) (by kernel_rfl) (fun _ _ _ h => h) (Or.inl ⟨by rfl, ?_⟩) (by assumption) ?_
              rotate_left
              · intro w hSw
                try dsimp only at hSw
                go_simp
                try with_reducible rfl
              try simp only [List.getElem_toArray, List.getElem_cons_zero, List.getElem_cons_succ, Act.put, List.setIfInBounds_toArray, List.set_cons_zero, List.set_cons_succ]
              refine wpAnyH_take (i := 9) (v := ?_) rfl (by kernel_rfl) (by kernel_rfl) (by kernel_rfl) (fun _ _ _ h => h) (Or.inl ⟨by rfl, ?_⟩) (by assumption) ?_
              rotate_left
              · intro w hSw
                try dsimp only at hSw
                go_simp
                try with_reducible rfl
              try simp only [List.getElem_toArray, List.getElem_cons_zero, List.getElem_cons_succ, Act.put, List.setIfInBounds_toArray, List.set_cons_zero, List.set_cons_succ]
              refine wpAnyH_take (i := 10) (v := ?_) rfl (by kernel_rfl) (by kernel_rfl) (by kernel_rfl) (fun _ _ _ h => h) (Or.inl ⟨by rfl, ?_⟩) (by assumption) ?_
              rotate_left
              · intro w hSw
                try dsimp only at hSw
                go_simp
                try with_reducible rfl
              try simp only [List.getElem_toArray, List.getElem_cons_zero, List.getElem_cons_succ, Act.put, List.setIfInBounds_toArray, List.set_cons_zero, List.set_cons_succ]
              refine wpAnyH_take (i := 11) (v := ?_) rfl (by kernel_rfl) (by kernel_rfl) (by kernel_rfl) (fun _ _ _ h => h) (Or.inl ⟨by rfl, ?_⟩) (by assumption) ?_
              rotate_left
              · intro w hSw
                try dsimp only at hSw
                go_simp
                try with_reducible rfl
              try simp only [List.getElem_toArray, List.getElem_cons_zero, List.getElem_cons_succ, Act.put, List.setIfInBounds_toArray, List.set_cons_zero, List.set_cons_succ]
              refine wpAnyH_take (i := 12) (v := ?_) rfl (by kernel_rfl) (by kernel_rfl) (by kernel_rfl) (fun _ _ _ h => h) (Or.inl ⟨by rfl, ?_⟩) (by assumption) ?_
              rotate_left
              · intro w hSw
                try dsimp only at hSw
                go_simp
                try with_reducible rfl
              try simp only [List.getElem_toArray, List.getElem_cons_zero, List.getElem_cons_succ, Act.put, List.setIfInBounds_toArray, List.set_cons_zero, List.set_cons_succ]
              refine wpAnyH_take (i := 13) (v := undef) rfl (by kernel_rfl) (by kernel_rfl) (by kernel_rfl) (fun _ _ _ h => h) (Or.inr ⟨by rfl, rfl⟩) (by assumption) ?_
              try simp only [List.getElem_toArray, List.getElem_cons_zero, List.getElem_cons_succ, Act.put, List.setIfInBounds_toArray, List.set_cons_zero, List.set_cons_succ]
              refine wpAnyH_take (i := 14) (v := undef) rfl (by kernel_rfl) (by kernel_rfl) (by kernel_rfl) (fun _ _ _ h => h) (Or.inr ⟨by rfl, rfl⟩) (by assumption) ?_
              try simp only [List.getElem_toArray, List.getElem_cons_zero, List.getElem_cons_succ, Act.put, List.setIfInBounds_toArray, List.set_cons_zero, List.set_cons_succ]
              refine wpAnyH_take (i := 15) (v := undef) rfl (by kernel_rfl) (by kernel_rfl) (by kernel_rfl) (fun _ _ _ h => h) (Or.inr ⟨by rfl, rfl⟩) (by assumption) ?_
              try simp only [List.getElem_toArray, List.getElem_cons_zero, List.getElem_cons_succ, Act.put, List.setIfInBounds_toArray, List.set_cons_zero, List.set_cons_succ]
              refine wpAnyH_take (i := 16) (v := undef) rfl (by kernel_rfl) (by kernel_rfl) (by kernel_rfl) (fun _ _ _ h => h) (Or.inr ⟨by rfl, rfl⟩) (by assumption) ?_
              try simp only [List.getElem_toArray, List.getElem_cons_zero, List.getElem_cons_succ, Act.put, List.setIfInBounds_toArray, List.set_cons_zero, List.set_cons_succ]
              refine wpAnyH_take (i := 17) (v := undef) rfl (by kernel_rfl) (by kernel_rfl) (by kernel_rfl) (fun _ _ _ h => h) (Or.inr ⟨by rfl, rfl⟩) (by assumption) ?_
              try simp only [List.getElem_toArray, List.getElem_cons_zero, List.getElem_cons_succ, Act.put, List.setIfInBounds_toArray, List.set_cons_zero, List.set_cons_succ]
              refine wpAnyH_take (i := 18) (v := undef) rfl (by kernel_rfl) (by kernel_rfl) (by kernel_rfl) (fun _ _ _ h => h) (Or.inr ⟨by rfl, rfl⟩) (by assumption) ?_
              try simp only [List.getElem_toArray, List.getElem_cons_zero, List.getElem_cons_succ, Act.put, List.setIfInBounds_toArray, List.set_cons_zero, List.set_cons_succ]
              refine wpAnyH_take (i := 19) (v := undef) rfl (by kernel_rfl) (by kernel_rfl) (by kernel_rfl) (fun _ _ _ h => h) (Or.inr ⟨by rfl, rfl⟩) (by assumption) ?_
              try simp only [List.getElem_toArray, List.getElem_cons_zero, List.getElem_cons_succ, Act.put, List.setIfInBounds_toArray, List.set_cons_zero, List.set_cons_succ]
              refine wpAnyH_take (i := 20) (v := undef) rfl (by kernel_rfl) (by kernel_rfl) (by kernel_rfl) (fun _ _ _ h => h) (Or.inr ⟨by rfl, rfl⟩) (by assumption) ?_
              try simp only [List.getElem_toArray, List.getElem_cons_zero, List.getElem_cons_succ, Act.put, List.setIfInBounds_toArray, List.set_cons_zero, List.set_cons_succ]
              refine wpAnyH_take (i := 21) (v := ?_) rfl (by kernel_rfl) (by kernel_rfl) (by kernel_rfl) (fun _ _ _ h => h) (Or.inl ⟨by rfl, ?_⟩) (by assumption) ?_
              rotate_left
              · intro w hSw
                try dsimp only at hSw
                go_simp
                try with_reducible rfl
              try simp only [List.getElem_toArray, List.getElem_cons_zero, List.getElem_cons_succ, Act.put, List.setIfInBounds_toArray, List.set_cons_zero, List.set_cons_succ]
              refine wpAnyH_take (i := 22) (v := ?_) rfl (by kernel_rfl) (by kernel_rfl) (by kernel_rfl) (fun _ _ _ h => h) (Or.inl ⟨by rfl, ?_⟩) (by assumption) ?_
              rotate_left
              · intro w hSw
                try dsimp only at hSw
                go_simp
                try with_reducible rfl
              try simp only [List.getElem_toArray, List.getElem_cons_zero, List.getElem_cons_succ, Act.put, List.setIfInBounds_toArray, List.set_cons_zero, List.set_cons_succ]
              refine wpAnyH_take (i := 23) (v := ?_) rfl (by kernel_rfl) (by kernel_rfl) (by kernel_rfl) (fun _ _ _ h => h) (Or.inl ⟨by rfl, ?_⟩) (by assumption) ?_
              rotate_left
              · intro w hSw
                try dsimp only at hSw
                go_simp
                try with_reducible rfl
              try simp only [List.getElem_toArray, List.getElem_cons_zero, List.getElem_cons_succ, Act.put, List.setIfInBounds_toArray, List.set_cons_zero, List.set_cons_succ]
              refine wpAnyH_done (by kernel_rfl) ?_ _
              clear f1 HK
              go_split_ands
              go_wp2
              go_ret
              exact ⟨rfl, HQN.out.bel.trans (Below.mono (by assumption) HQN.out.bel.size)⟩
            · have f1 : ((n : Int) == 0) = false := by simp; omega
              have hzn : z < n := by omega
              have hzn2 : (z : Int) < (n : Int) := by omega
              have hCl := HCL.out
              have hcq := HQN.out.cs
              obtain rfl := hcq.ad (by omega)
              have hts : t.s0 = clf n f z := by
                rw [HTT.out]
                show (if s.st = 0 then 0 else atL C s.s0) = _
                rw [if_neg (by rw [HN.out]; omega), HC.out, HZ.out, atL_fl (by omega) (by omega)]
                rfl
              have hzc : C[z]? = some t.s0 := by rw [hts, HC.out]; exact fl_get _ hzn
              have HZC := Lib.hid hzc
              have f3 : (t.s0 == t.s0) = true := by simp
              have hkeep : ∀ w', Below wq.heap.size wq w' → (w'.cell? ⟨w.heap.size, 0, none⟩ = some (.int .i64 n) ∧ w'.cell? ⟨w.heap.size, 1, none⟩ = some (.int .i64 s.lb) ∧ w'.cell? ⟨w.heap.size, 2, none⟩ = some (.int .i64 z) ∧ w'.cell? ⟨tb, 1, none⟩ = some (.int .i64 t.lb) ∧ w'.cell? ⟨tb, 2, none⟩ = some (.int .i64 t.s0) ∧ w'.cell? ⟨cb, z, none⟩ = some (.int .i64 t.s0) ∧ Below wq.heap.size wq w') := fun w' h => by
                obtain ⟨a0, a1, a2, a3, _⟩ := sysC (HQN.out.call h).box
                obtain ⟨b0, b1, b2, b3, _⟩ := sysC (HQN.out.call h).tb
                have c0 := (HQN.out.call h).cs.ci HZC.out
                rw [Nat.zero_add] at c0
                exact ⟨a0, a1, a2, b1, b2, c0, h⟩
              have HK := Lib.hid hkeep
              clear hkeep hts hcq hCl hzc hn0 HZC
              go_wp2_with fail
              refine wp_region_held_drew (S := fun w' => w'.cell? ⟨w.heap.size, 0, none⟩ = some (.int .i64 n) ∧ w'.cell? ⟨w.heap.size, 1, none⟩ = some (.int .i64 s.lb) ∧ w'.cell? ⟨w.heap.size, 2, none⟩ = some (.int .i64 z) ∧ w'.cell? ⟨tb, 1, none⟩ = some (.int .i64 t.lb) ∧ w'.cell? ⟨tb, 2, none⟩ = some (.int .i64 t.s0) ∧ w'.cell? ⟨cb, z, none⟩ = some (.int .i64 t.s0) ∧ Below wq.heap.size wq w') (by kernel_rfl) (HK.out _ (Below.refl _ _).drew) (fun hHeld => ?_)
              refine wpAnyH_ready (rs := [0]) (by kernel_rfl) (by simp) ?_
              refine AllReadyH.cons rfl (fun K hK => ?_) AllReadyH.nil
              go_simp
              go_at_call 19
              refine (ALVQ.out _ hHeld.2.2.2.2.2.2).mono ?_
              rintro e w8 ⟨rfl, hB8⟩
              refine hK.out _ _ (HK.out _ hB8) (fun hHeld => ?_)
              clear hK K
              try simp only [List.getElem_toArray, List.getElem_cons_zero, List.getElem_cons_succ, Act.put, List.setIfInBounds_toArray, List.set_cons_zero, List.set_cons_succ]
              refine wpAnyH_take (i := 1) (v := ?_) rfl (by kernel_rfl) (by kernel_rfl) (by kernel_rfl) (fun _ _ _ h => h) (Or.inl ⟨by rfl, ?_⟩) (by assumption) ?_
              rotate_left
              · intro w hSw
                try dsimp only at hSw
                go_simp
                try with_reducible rfl
              try simp only [List.getElem_toArray, List.getElem_cons_zero, List.getElem_cons_succ, Act.put, List.setIfInBounds_toArray, List.set_cons_zero, List.set_cons_succ]
              refine wpAnyH_take (i := 2) (v := ?_) rfl (by kernel_rfl) (by kernel_rfl) (by kernel_rfl) (fun _ _ _ h => h) (Or.inl ⟨by rfl, ?_⟩) (by assumption) ?_
              rotate_left
              · intro w hSw
                try dsimp only at hSw
                go_simp
                try with_reducible rfl
              try simp only [List.getElem_toArray, List.getElem_cons_zero, List.getElem_cons_succ, Act.put, List.setIfInBounds_toArray, List.set_cons_zero, List.set_cons_succ]
              refine wpAnyH_take (i := 3) (v := ?_) rfl (by kernel_rfl) (by kernel_rfl) (by kernel_rfl) (fun _ _ _ h => h) (Or.inl ⟨by rfl, ?_⟩) (by assumption) ?_
              rotate_left
              · intro w hSw
                try dsimp only at hSw
                go_simp
                try with_reducible rfl
              try simp only [List.getElem_toArray, List.getElem_cons_zero, List.getElem_cons_succ, Act.put, List.setIfInBounds_toArray, List.set_cons_zero, List.set_cons_succ]
              refine wpAnyH_take (i := 4) (v := ?_) rfl (by kernel_rfl) (by kernel_rfl) (by kernel_rfl) (fun _ _ _ h => h) (Or.inl ⟨by rfl, ?_⟩) (by assumption) ?_
              rotate_left
              · intro w hSw
                try dsimp only at hSw
                go_simp
                try with_reducible rfl
              try simp only [List.getElem_toArray, List.getElem_cons_zero, List.getElem_cons_succ, Act.put, List.setIfInBounds_toArray, List.set_cons_zero, List.set_cons_succ]
              refine wpAnyH_take (i := 5) (v := ?_) rfl (by kernel_rfl) (by kernel_rfl) (by kernel_rfl) (fun _ _ _ h => h) (Or.inl ⟨by rfl, ?_⟩) (by assumption) ?_
              rotate_left
              · intro w hSw
                try dsimp only at hSw
                go_simp
                try with_reducible rfl
              try simp only [List.getElem_toArray, List.getElem_cons_zero, List.getElem_cons_succ, Act.put, List.setIfInBounds_toArray, List.set_cons_zero, List.set_cons_succ]
              refine wpAnyH_take (i := 6) (v := ?_) rfl (by kernel_rfl) (by kernel_rfl) (by kernel_rfl) (fun _ _ _ h => h) (Or.inl ⟨by rfl, ?_⟩) (by assumption) ?_
              rotate_left
              · intro w hSw
                try dsimp only at hSw
                go_simp
                try with_reducible rfl
              try simp only [List.getElem_toArray, List.getElem_cons_zero, List.getElem_cons_succ, Act.put, List.setIfInBounds_toArray, List.set_cons_zero, List.set_cons_succ]
              refine wpAnyH_take (i := 7) (v := ?_) rfl (by kernel_rfl) (by kernel_rfl) (by kernel_rfl) (fun _ _ _ h => h) (Or.inl ⟨by rfl, ?_⟩) (by assumption) ?_
              rotate_left
              · intro w hSw
                try dsimp only at hSw
                go_simp
                try with_reducible rfl
              try simp only [List.getElem_toArray, List.getElem_cons_zero, List.getElem_cons_succ, Act.put, List.setIfInBounds_toArray, List.set_cons_zero, List.set_cons_succ]
              refine wpAnyH_take (i := 8) (v := ?_) rfl (by kernel_rfl) (by kernel_rfl) (by kernel_rfl) (fun _ _ _ h => h) (Or.inl ⟨by rfl, ?_⟩) (by assumption) ?_
              rotate_left
              · intro w hSw
                try dsimp only at hSw
                go_simp
                try with_reducible rfl
              try simp only [List.getElem_toArray, List.getElem_cons_zero, List.getElem_cons_succ, Act.put, List.setIfInBounds_toArray, List.set_cons_zero, List.set_cons_succ]
              refine wpAnyH_take (i := 9) (v := ?_) rfl (by kernel_rfl) (by kernel_rfl) (by kernel_rfl) (fun _ _ _ h => h) (Or.inl ⟨by rfl, ?_⟩) (by assumption) ?_
              rotate_left
              · intro w hSw
                try dsimp only at hSw
                go_simp
                try with_reducible rfl
              try simp only [List.getElem_toArray, List.getElem_cons_zero, List.getElem_cons_succ, Act.put, List.setIfInBounds_toArray, List.set_cons_zero, List.set_cons_succ]
              refine wpAnyH_take (i := 10) (v := ?_) rfl (by kernel_rfl) (by kernel_rfl) (by kernel_rfl) (fun _ _ _ h => h) (Or.inl ⟨by rfl, ?_⟩) (by assumption) ?_
              rotate_left
              · intro w hSw
                try dsimp only at hSw
                go_simp
                try with_reducible rfl
              try simp only [List.getElem_toArray, List.getElem_cons_zero, List.getElem_cons_succ, Act.put, List.setIfInBounds_toArray, List.set_cons_zero, List.set_cons_succ]
              refine wpAnyH_take (i := 11) (v := ?_) rfl (by kernel_rfl) (by kernel_rfl) (by kernel_rfl) (fun _ _ _ h => h) (Or.inl ⟨by rfl, ?_⟩) (by assumption) ?_
              rotate_left
              · intro w hSw
                try dsimp only at hSw
                go_simp
                try with_reducible rfl
              try simp only [List.getElem_toArray, List.getElem_cons_zero, List.getElem_cons_succ, Act.put, List.setIfInBounds_toArray, List.set_cons_zero, List.set_cons_succ]
              refine wpAnyH_take (i := 12) (v := ?_) rfl (by kernel_rfl) (by kernel_rfl) (by kernel_rfl) (fun _ _ _ h => h) (Or.inl ⟨by rfl, ?_⟩) (by assumption) ?_
              rotate_left
              · intro w hSw
                try dsimp only at hSw
                go_simp
                try with_reducible rfl
              try simp only [List.getElem_toArray, List.getElem_cons_zero, List.getElem_cons_succ, Act.put, List.setIfInBounds_toArray, List.set_cons_zero, List.set_cons_succ]
              refine wpAnyH_take (i := 13) (v := ?_) rfl (by kernel_rfl) (by kernel_rfl) (by kernel_rfl) (fun _ _ _ h => h) (Or.inl ⟨by rfl, ?_⟩) (by assumption) ?_
              rotate_left
              · intro w hSw
                try dsimp only at hSw
                go_simp
                try with_reducible rfl
              try simp only [List.getElem_toArray, List.getElem_cons_zero, List.getElem_cons_succ, Act.put, List.setIfInBounds_toArray, List.set_cons_zero, List.set_cons_succ]
              refine wpAnyH_take (i := 14) (v := ?_) rfl (by kernel_rfl) (by kernel_rfl) (by kernel_rfl) (fun _ _ _ h => h) (Or.inl ⟨by rfl, ?_⟩) (by assumption) ?_
              rotate_left
              · intro w hSw
                try dsimp only at hSw
                go_simp
                try with_reducible rfl
              try simp only [List.getElem_toArray, List.getElem_cons_zero, List.getElem_cons_succ, Act.put, List.setIfInBounds_toArray, List.set_cons_zero, List.set_cons_succ]
              refine wpAnyH_take (i := 15) (v := ?_) rfl (by kernel_rfl) (by kernel_rfl) (by kernel_rfl) (fun _ _ _ h => h) (Or.inl ⟨by rfl, ?_⟩) (by assumption) ?_
              rotate_left
              · intro w hSw
                try dsimp only at hSw
                go_simp
                try with_reducible rfl
              try simp only [List.getElem_toArray, List.getElem_cons_zero, List.getElem_cons_succ, Act.put, List.setIfInBounds_toArray, List.set_cons_zero, List.set_cons_succ]
              refine wpAnyH_take (i := 16) (v := ?_) rfl (by kernel_rfl) (by kernel_rfl) (by kernel_rfl) (fun _ _ _ h => h) (Or.inl ⟨by rfl, ?_⟩) (by assumption) ?_
              rotate_left
              · intro w hSw
                try dsimp only at hSw
                go_simp
                try with_reducible rfl
              try simp only [List.getElem_toArray, List.getElem_cons_zero, List.getElem_cons_succ, Act.put, List.setIfInBounds_toArray, List.set_cons_zero, List.set_cons_succ]
              refine wpAnyH_take (i := 17) (v := ?_) rfl (by kernel_rfl) (by kernel_rfl) (by kernel_rfl) (fun _ _ _ h => h) (Or.inl ⟨by rfl, ?_⟩) (by assumption) ?_
              rotate_left
              · intro w hSw
                try dsimp only at hSw
                go_simp
                try with_reducible rfl
              try simp only [List.getElem_toArray, List.getElem_cons_zero, List.getElem_cons_succ, Act.put, List.setIfInBounds_toArray, List.set_cons_zero, List.set_cons_succ]
              refine wpAnyH_take (i := 18) (v := ?_) rfl (by kernel_rfl) (by kernel_rfl) (by kernel_rfl) (fun _ _ _ h => h) (Or.inl ⟨by rfl, ?_⟩) (by assumption) ?_
              rotate_left
              · intro w hSw
                try dsimp only at hSw
                go_simp
                try with_reducible rfl
              try simp only [List.getElem_toArray, List.getElem_cons_zero, List.getElem_cons_succ, Act.put, List.setIfInBounds_toArray, List.set_cons_zero, List.set_cons_succ]
              refine wpAnyH_take (i := 19) (v := ?_) rfl (by kernel_rfl) (by kernel_rfl) (by kernel_rfl) (fun _ _ _ h => h) (Or.inl ⟨by rfl, ?_⟩) (by assumption) ?_
              rotate_left
              · intro w hSw
                try dsimp only at hSw
                go_simp
                try with_reducible rfl
              try simp only [List.getElem_toArray, List.getElem_cons_zero, List.getElem_cons_succ, Act.put, List.setIfInBounds_toArray, List.set_cons_zero, List.set_cons_succ]
              refine wpAnyH_take (i := 20) (v := ?_) rfl (by kernel_rfl) (by kernel_rfl) (by kernel_rfl) (fun _ _ _ h => h) (Or.inl ⟨by rfl, ?_⟩) (by assumption) ?_
              rotate_left
              · intro w hSw
                try dsimp only at hSw
                go_simp
                try with_reducible rfl
              try simp only [List.getElem_toArray, List.getElem_cons_zero, List.getElem_cons_succ, Act.put, List.setIfInBounds_toArray, List.set_cons_zero, List.set_cons_succ]
              refine wpAnyH_take (i := 21) (v := ?_) rfl (by kernel_rfl) (by kernel_rfl) (by kernel_rfl) (fun _ _ _ h => h) (Or.inl ⟨by rfl, ?_⟩) (by assumption) ?_
              rotate_left
              · intro w hSw
                try dsimp only at hSw
                go_simp
                try with_reducible rfl
              try simp only [List.getElem_toArray, List.getElem_cons_zero, List.getElem_cons_succ, Act.put, List.setIfInBounds_toArray, List.set_cons_zero, List.set_cons_succ]
              refine wpAnyH_take (i := 22) (v := ?_) rfl (by kernel_rfl) (by kernel_rfl) (by kernel_rfl) (fun _ _ _ h => h) (Or.inl ⟨by rfl, ?_⟩) (by assumption) ?_
              rotate_left
              · intro w hSw
                try dsimp only at hSw
                go_simp
                try with_reducible rfl
              try simp only [List.getElem_toArray, List.getElem_cons_zero, List.getElem_cons_succ, Act.put, List.setIfInBounds_toArray, List.set_cons_zero, List.set_cons_succ]
              refine wpAnyH_take (i := 23) (v := ?_) rfl (by kernel_rfl) (by kernel_rfl) (by kernel_rfl) (fun _ _ _ h => h) (Or.inl ⟨by rfl, ?_⟩) (by assumption) ?_
              rotate_left
              · intro w hSw
                try dsimp only at hSw
                go_simp
                try with_reducible rfl
              try simp only [List.getElem_toArray, List.getElem_cons_zero, List.getElem_cons_succ, Act.put, List.setIfInBounds_toArray, List.set_cons_zero, List.set_cons_succ]
              refine wpAnyH_done (by kernel_rfl) ?_ _
              clear f1 f3 HK
              go_split_ands
              go_wp2
              go_ret
              exact ⟨rfl, HQN.out.bel.trans (Below.mono (by assumption) HQN.out.bel.size)⟩
end Go.Proofs.YtbbjmompbmgnmaaDoor

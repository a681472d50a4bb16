/-
  law12.BranchingAhead.
-/
import Derived.Test.YtopnedihknjjfaaGreatDoorAlive12
import Derived.Test.YtopnedihknjjfaaGreatDoorGOrdP
import Derived.Deep.Cut
import Derived.Deep.CutRange
import Derived.Deep.AppendLies
import Derived.Deep.RegionLaw
namespace Go.Proofs.YtopnedihknjjfaaGreatDoor
open Go.RowKit Pl

theorem step_appS {P : Program} {w : World} {ops : Array Oper} {o : Oper} {a : Act} {K : Act → World → Prop} {Q : Exit → Act → World → Prop} {F : Prop} (hgd : o.guard = none) (s x : Operand) (t : TypeId)
    (ho : o.op = .call { callee := .builtin .append, args := #[s, x], argTypes := #[t, t] })
    {e : TypeId} {size bytes : Nat} {z : Value} (R : IsRow P t e size bytes z) {base : Nat} (hb0 : base ≤ w.heap.size)
    {v : Value} {n : Nat} {xs : List Value} (hs : a.eval s = v) (hown : w.ownsRow base e size v n xs)
    {α : Type} {enc : α → List Value} {ys : List α} {sa : Option Addr} {b off c : Nat} (hk : ∀ x, (enc x).length = size) (h1 : ∀ x, ∀ u ∈ enc x, u.oneCell' = true) (hS : SlAt enc size w sa b off ys) (hx : a.eval x = .slice sa ys.length c)
    (hbytes : (n + ys.length) * bytes ≤ 140737488355328) (hmax : n + ys.length ≤ maxLen)
    (h : ∀ v' w', w'.ownsRow base e size v' (n + ys.length) (xs ++ ys.flatMap enc) → w.grownBy w' v.ownBlock → K (a.put o.dst v') w') :
    if Region.wanted o (yielded ops a.tmps) = true then Oper.wp P o a w K Q else F := by
  have hw : Region.wanted o (yielded ops a.tmps) = true := by simp [Region.wanted, hgd]
  rw [if_pos hw]
  cases sa with
  | some ad =>
    obtain ⟨g1, g2, g3⟩ := flat_slice hk h1 hS rfl
    obtain ⟨i, hi, hz, hsz, hby⟩ := R.info
    exact wp_append_own w s x t ho base e i z size bytes R.ht hi hz hsz hby R.zs R.pos v n xs hs hown ad ys.length c _ hx g3 g1 g2 hmax hbytes hb0 (fun v' w' h2 h3 _ => h v' w' h2 h3)
  | none =>
    have h0 : ys = [] := by
      rcases Nat.eq_zero_or_pos ys.length with h | h
      · exact List.eq_nil_of_length_eq_zero h
      · have := hS.ad h; cases this
    subst h0
    obtain ⟨i, hi, _⟩ := R.info
    have hrun : (Builtin.append_ #[t, t] o.type #[v, .slice none 0 c]).run P w = .ok v w := by
      rcases hown.2 with ⟨rfl, rfl⟩ | ⟨g, cap, cur, rfl, _, _, hnc, _⟩
      · simp [Builtin.append_, run_underlying R.ht, sizeOf, typeInfo, hi, Builtin.lenOf, Builtin.firstCells]
      · simp [Builtin.append_, run_underlying R.ht, sizeOf, typeInfo, hi, Builtin.lenOf, Builtin.firstCells, hnc, storeCells]
    have hx' : a.eval x = .slice none 0 c := hx
    unfold Oper.wp
    simp [execOp, ho, resolve, invoke, builtin, hs, hx', hrun, Result.andThen]
    exact h v w (by simpa using hown) ⟨rfl, rfl, rfl, Nat.le_refl _, fun _ _ _ => rfl⟩
theorem oneEA (x : E) : ∀ u ∈ encE x, u.oneCell' = true := by intro u hu; simp [encE] at hu; rcases hu with rfl | rfl | rfl <;> rfl

set_option maxRecDepth 100000 in
set_option maxHeartbeats 8000000 in
theorem brAhead_any {w : World} {p : Addr} (hG : GErr 0 p w) (hT : ErrType w) (htab : Lib.TabIs Tryz.prog w "internal/strconv.uint64pow10" .u64 Lib.pow10Tab) {s : Lts} {a : Option Addr} {b off c : Nat} (hS : SlAt encE 3 w a b off s.es) (q : Int) :
    Calls Tryz.prog 4 #[.agg #[.int .i64 s.st, .int .i64 s.lb, .int .i64 s.s0, .slice a s.es.length c], .int .i64 q] w fun e w' => e = .returned (.bool true) ∧ Below w.heap.size w w' := by
  have hB0 := (Below.refl w.heap.size w).alloc (Nat.le_refl _) (Obj.cells #[.int .i64 s.st, .int .i64 s.lb, .int .i64 s.s0, .slice a s.es.length c] 24)
  have hbx := heap_alloc_new w (Obj.cells #[.int .i64 s.st, .int .i64 s.lb, .int .i64 s.s0, .slice a s.es.length c] 24)
  have HG := Lib.hid hG; have HTY := Lib.hid hT; have HT := Lib.hid (Lib.tabBelow_of_tabIs htab); have HS := Lib.hid hS; have HB0 := Lib.hid hB0; have HBX := Lib.hid hbx
  have HSM := Lib.hid (small12_any s.s0 s.st s.lb a s.es.length c (w.alloc (Obj.cells #[.int .i64 s.st, .int .i64 s.lb, .int .i64 s.s0, .slice a s.es.length c] 24)))
  clear hG hT htab hS hB0 hbx
  have ALV : RowKit.Hid (∀ w1 : World, Below w.heap.size w w1 → Calls Tryz.prog 13 #[] w1 fun e w' => e = .returned (.bool true) ∧ Below w.heap.size w w' ∧ Below w1.heap.size w1 w') := Lib.hid (by
    intro w1 h1
    refine (alive12_any (HG.out.below h1) (HT.out _ h1)).mono ?_
    rintro e w' ⟨rfl, hB⟩
    exact ⟨rfl, h1.trans (hB.mono h1.size), hB⟩)
  by_cases hsm : (decide (s.st ≤ 40) && decide (s.es.length ≤ 250)) = true
  case neg =>
    have hsf : (decide (s.st ≤ 40) && decide (s.es.length ≤ 250)) = false := by simpa using hsm
    rw [hsf] at HSM
    clear hsm hsf
    go_enter Tryz.func4, Tryz.ntmps4
    go_wp2_with fail
    refine HSM.out.mono ?_
    rintro e w1 ⟨rfl, hB1⟩
    have HB1 := Lib.hid (HB0.out.trans (hB1.mono (by simp)))
    clear hB1
    go_wp2_with fail
    refine (ALV.out _ HB1.out).mono ?_
    rintro e w2 ⟨rfl, hB, _⟩
    go_wp2
    go_ret
    exact ⟨rfl, hB⟩
  rw [hsm] at HSM
  have hs1 : s.st ≤ 40 ∧ s.es.length ≤ 250 := by simpa using hsm
  clear hsm
  by_cases hq0 : q < 0
  · clear hs1
    go_enter Tryz.func4, Tryz.ntmps4
    go_wp2_with fail
    refine HSM.out.mono ?_
    rintro e w1 ⟨rfl, hB1⟩
    have hb1 := HB0.out.trans (hB1.mono (by simp))
    have hx1 := (hB1.block w.heap.size (by simp)).trans HBX.out
    have HB1 := Lib.hid hb1; have HX1 := Lib.hid hx1
    obtain ⟨x0, x1, x2, x3, x4⟩ := sysB hx1
    clear hB1 hb1 hx1 HSM HB0 HBX
    go_wp2_with fail
    refine (ALV.out _ HB1.out).mono ?_
    rintro e w5 ⟨rfl, hB, _⟩
    go_wp2
    go_ret
    exact ⟨rfl, hB⟩
  by_cases hq1 : s.st ≤ q
  · clear hs1
    have hq0' : decide (q < 0) = false := by simp [hq0]
    go_enter Tryz.func4, Tryz.ntmps4
    go_wp2_with fail
    refine HSM.out.mono ?_
    rintro e w1 ⟨rfl, hB1⟩
    have hb1 := HB0.out.trans (hB1.mono (by simp))
    have hx1 := (hB1.block w.heap.size (by simp)).trans HBX.out
    have HB1 := Lib.hid hb1; have HX1 := Lib.hid hx1
    obtain ⟨x0, x1, x2, x3, x4⟩ := sysB hx1
    clear hB1 hb1 hx1 HSM HB0 HBX
    go_wp2_with fail
    refine (ALV.out _ HB1.out).mono ?_
    rintro e w5 ⟨rfl, hB, _⟩
    go_wp2
    go_ret
    exact ⟨rfl, hB⟩
  have hq0' : decide (q < 0) = false := by simp [hq0]
  have hq1' : decide (s.st ≤ q) = false := by simp [hq1]
  by_cases hr : s.Right
  case neg =>
    have HCK := Lib.hid (fun (W : World) (hg : GErr 0 p W) (h : SlAt encE 3 W a b off s.es) => check_no hr a b off c W hg h)
    clear hr hs1
    go_enter Tryz.func4, Tryz.ntmps4
    go_wp2_with fail
    refine HSM.out.mono ?_
    rintro e w1 ⟨rfl, hB1⟩
    have hb1 := HB0.out.trans (hB1.mono (by simp))
    have hx1 := (hB1.block w.heap.size (by simp)).trans HBX.out
    have HB1 := Lib.hid hb1; have HX1 := Lib.hid hx1
    obtain ⟨x0, x1, x2, x3, x4⟩ := sysB hx1
    clear hB1 hb1 hx1 HSM HB0 HBX
    go_wp2_with fail
    refine (HCK.out _ (HG.out.below HB1.out) (HS.out.below HB1.out (Nat.le_refl _))).mono ?_
    rintro e w2 ⟨v, rfl, hF, hB2⟩
    obtain ⟨fb, rfl, _⟩ := hF.ex
    have HB2 := Lib.hid (HB1.out.trans (hB2.mono HB1.out.size))
    clear hF hB2 x0 x1 x2 x3 x4 HCK
    go_wp2_with fail
    refine (ALV.out _ HB2.out).mono ?_
    rintro e w5 ⟨rfl, hB, _⟩
    go_wp2
    go_ret
    exact ⟨rfl, hB⟩
  case pos =>
  obtain ⟨k, rfl⟩ := Int.eq_ofNat_of_zero_le (show 0 ≤ q by omega)
  have hst := hr.st0
  obtain ⟨n, hn⟩ : ∃ n : Nat, s.st = (n : Int) := ⟨s.st.toNat, by omega⟩
  have hn40 : n ≤ 40 := by omega
  have hkn : k < n := by omega
  have hnk : decide (n ≤ k) = false := by simp; omega
  have HR := Lib.hid hr; have HN := Lib.hid hn; have HEL := Lib.hid hs1.2
  rw [hn] at HSM HB0 HBX hq1' ⊢
  have HCK := Lib.hid (fun (W : World) (hg : GErr 0 p W) (h : SlAt encE 3 W a b off s.es) => check_ok hr a b off c W hg h)
  rw [hn] at HCK
  clear hr hst hs1 hq0 hq1 hn
  go_enter Tryz.func4, Tryz.ntmps4
  go_wp2_with fail
  refine HSM.out.mono ?_
  rintro e w1 ⟨rfl, hB1⟩
  have hb1 := HB0.out.trans (hB1.mono (by simp))
  have hx1 := (hB1.block w.heap.size (by simp)).trans HBX.out
  have HB1 := Lib.hid hb1; have HX1 := Lib.hid hx1
  obtain ⟨x0, x1, x2, x3, x4⟩ := sysB hx1
  clear hB1 hb1 hx1 HSM HB0 HBX
  go_wp2_with fail
  refine (HCK.out _ (HG.out.below HB1.out) (HS.out.below HB1.out (Nat.le_refl _))).mono ?_
  rintro e w2 ⟨rfl, hB2⟩
  have hb2 := HB1.out.trans (hB2.mono HB1.out.size)
  have HX2 := Lib.hid ((hB2.block w.heap.size x4).trans HX1.out)
  have HB2 := Lib.hid hb2
  clear x0 x1 x2 x3 x4
  obtain ⟨x0, x1, x2, x3, x4⟩ := sysB HX2.out
  clear hB2 hb2 HX1 HB1 HCK
  have hcst : wrap64 ((n : Int) + 1) = (n : Int) + 1 := by unfold wrap64; omega
  go_wp2_with fail
  clear hcst x0 x1 x2 x3 x4
  have hbU := HB2.out.alloc HB2.out.size (Obj.cells #[.int .i64 ((n : Int) + 1), .int .i64 s.lb, .int .i64 s.s0, .slice a s.es.length c] 24)
  have HTU := Lib.hid (heap_alloc_new w2 (Obj.cells #[.int .i64 ((n : Int) + 1), .int .i64 s.lb, .int .i64 s.s0, .slice a s.es.length c] 24))
  have HXU := Lib.hid ((((Below.refl w2.heap.size w2).alloc (Nat.le_refl _) (Obj.cells #[.int .i64 ((n : Int) + 1), .int .i64 s.lb, .int .i64 s.s0, .slice a s.es.length c] 24)).block w.heap.size (Array.getElem?_eq_some_iff.1 HX2.out).1).trans HX2.out)
  obtain ⟨U, hU⟩ : ∃ U, U = w2.alloc (Obj.cells #[.int .i64 ((n : Int) + 1), .int .i64 s.lb, .int .i64 s.s0, .slice a s.es.length c] 24) := ⟨_, rfl⟩
  obtain ⟨tb, htb⟩ : ∃ tb, tb = w2.heap.size := ⟨_, rfl⟩
  have htlo : w.heap.size < tb := by rw [htb]; exact (Array.getElem?_eq_some_iff.1 HX2.out).1
  rw [← hU] at hbU HTU HXU ⊢
  rw [← htb] at HTU ⊢
  have HBU := Lib.hid hbU
  have HSU := Lib.hid (HS.out.below hbU (Nat.le_refl _))
  obtain ⟨x0, x1, x2, x3, x4⟩ := sysB HXU.out
  obtain ⟨y0, y1, y2, y3, y4⟩ := sysB HTU.out
  have yf : U.frozen? ⟨tb, 3, none⟩ = false := by simp [World.frozen?, HTU.out]
  have hwU := hbU.size
  obtain ⟨el, hel⟩ : ∃ el, el = s.es.length := ⟨_, rfl⟩
  have HELE := Lib.hid hel
  have hel2 : el ≤ 250 := by have := HEL.out; omega
  rw [← hel] at x3 y3 ⊢
  clear hU htb hbU hel HX2 HB2
  have HFIN : RowKit.Hid (∀ (W : World) (g cap : Nat), Below U.heap.size U W → W.ownsRow U.heap.size 36 3 (.slice (some ⟨g, 0, none⟩) (el + 1) cap) (el + 1) (s.es.flatMap encE ++ [.int .i64 (n : Int), .int .i64 0, .int .i64 (k : Int)]) →
      (∃ g2 c2, (W.setCell ⟨tb, 3, none⟩ (.slice (some ⟨g, 0, none⟩) (el + 1) cap)).heap[tb]? = some (.cells #[.int .i64 ((n : Int) + 1), .int .i64 s.lb, .int .i64 s.s0, .slice (some ⟨g2, 0, none⟩) (el + 1) c2] 24 (0, 0)) ∧ SlAt encE 3 (W.setCell ⟨tb, 3, none⟩ (.slice (some ⟨g, 0, none⟩) (el + 1) cap)) (some ⟨g2, 0, none⟩) g2 0 (aheadS s (k : Int)).es) ∧
      (W.setCell ⟨tb, 3, none⟩ (.slice (some ⟨g, 0, none⟩) (el + 1) cap)).heap[w.heap.size]? = some (.cells #[.int .i64 n, .int .i64 s.lb, .int .i64 s.s0, .slice a el c] 24 (0, 0)) ∧ Below w.heap.size w (W.setCell ⟨tb, 3, none⟩ (.slice (some ⟨g, 0, none⟩) (el + 1) cap))) := Lib.hid (fun W g cap hB ho => by
    have ht := (hB.block tb y4).trans HTU.out
    have hx := (hB.block w.heap.size x4).trans HXU.out
    have he : (aheadS s (k : Int)).es.length = el + 1 := by unfold aheadS; rw [List.length_append, HELE.out]; rfl
    have ho2 : W.ownsRow U.heap.size 36 3 (.slice (some ⟨g, 0, none⟩) (el + 1) cap) (aheadS s (k : Int)).es.length ((aheadS s (k : Int)).es.flatMap encE) := by
      rw [he]
      have e2 : (aheadS s (k : Int)).es.flatMap encE = s.es.flatMap encE ++ [.int .i64 (n : Int), .int .i64 0, .int .i64 (k : Int)] := by
        unfold aheadS; rw [List.flatMap_append, HN.out]; rfl
      rw [e2]; exact ho
    obtain ⟨a', c', b', hv, _, _, hs, hlo⟩ := slAt_own lenE ho2
    simp only [Value.slice.injEq] at hv
    obtain ⟨rfl, _, rfl⟩ := hv
    have hb' := hs.ad (by omega)
    simp only [Option.some.injEq, Addr.mk.injEq, and_true] at hb'
    have hg2 := hlo (by omega)
    refine ⟨⟨g, cap, heap_setCell_same _ tb 3 _ _ _ ht, ?_⟩, ?_, ?_⟩
    · subst hb'
      exact hs.setOther (p := ⟨tb, 3, none⟩) (fun _ => by show _ ≠ tb; omega) _
    · rw [Below.heap_setCell _ _ _ _ (by show w.heap.size ≠ tb; omega), hx, HELE.out]
    · exact (HBU.out.trans (hB.mono hwU)).setCell (by show w.heap.size ≤ tb; omega) _)
  have KEEP : RowKit.Hid (∀ W, Below U.heap.size U W → W.cell? ⟨w.heap.size, 0, none⟩ = some (.int .i64 n) ∧ W.cell? ⟨w.heap.size, 3, none⟩ = some (.slice a el c) ∧ W.cell? ⟨tb, 3, none⟩ = some (.slice a el c) ∧ W.frozen? ⟨tb, 3, none⟩ = false ∧ w.heap.size < W.heap.size ∧ tb < W.heap.size ∧ SlAt encE 3 W a b off s.es) := Lib.hid (fun W hB => by
    have ht := (hB.block tb y4).trans HTU.out
    have hx := (hB.block w.heap.size x4).trans HXU.out
    exact ⟨by simp [World.cell?, hx], by simp [World.cell?, hx, HELE.out], by simp [World.cell?, ht, HELE.out], by simp [World.frozen?, ht], Nat.lt_of_lt_of_le x4 hB.size, Nat.lt_of_lt_of_le y4 hB.size, HSU.out.below hB (Nat.le_refl _)⟩)
  have B0 : RowKit.Hid (Below U.heap.size U U.drew) := Lib.hid (Below.refl _ _).drew
  have B1 : RowKit.Hid (Below U.heap.size U (U.alloc (.cells #[.int .i64 (n : Int), .int .i64 0, .int .i64 (k : Int)] 36)).drew) := Lib.hid ((Below.refl U.heap.size U).alloc (Nat.le_refl _) _).drew
  have B2 : RowKit.Hid (Below U.heap.size U (U.drew.alloc (.cells #[.int .i64 (n : Int), .int .i64 0, .int .i64 (k : Int)] 36))) := Lib.hid ((Below.refl U.heap.size U).drew.alloc (Nat.le_refl _) _)
  go_cut [] from 32 to 42 (fun wx => (∃ g2 c2, wx.heap[tb]? = some (.cells #[.int .i64 ((n : Int) + 1), .int .i64 s.lb, .int .i64 s.s0, .slice (some ⟨g2, 0, none⟩) (el + 1) c2] 24 (0, 0)) ∧ SlAt encE 3 wx (some ⟨g2, 0, none⟩) g2 0 (aheadS s (k : Int)).es) ∧ wx.heap[w.heap.size]? = some (.cells #[.int .i64 n, .int .i64 s.lb, .int .i64 s.s0, .slice a el c] 24 (0, 0)) ∧ Below w.heap.size w wx)
  case first =>
    go_region_law (first
      | (refine step_appS rfl _ _ _ rfl rowE (base := U.heap.size) (by first | exact B0.out.size | exact B1.out.size) rfl (World.ownsRow_nil _ _ _ _) lenE oneEA ((KEEP.out _ (by first | exact B0.out | exact B1.out)).2.2.2.2.2.2) (by rw [← HELE.out]; rfl) (by have := HELE.out; omega) (by unfold maxLen; have := HELE.out; omega) ?_; intro v3 w3 hown3 hg3; rw [Nat.zero_add, ← HELE.out, List.nil_append] at hown3; have hb3 : Below U.heap.size U w3 := (by first | exact B0.out.grown hg3 (Nat.le_refl _) (fun k hk => by cases hk) | exact B1.out.grown hg3 B1.out.size (fun k hk => by cases hk)); obtain ⟨k0, k1, k2, k3, k4, k5, _⟩ := KEEP.out _ hb3)
      | (refine step_app1 rfl _ _ _ rfl rowE rfl (hown3.alloc _) ⟨w3.heap.size, 0, none⟩ 1 1 [.int .i64 (n : Int), .int .i64 0, .int .i64 (k : Int)] rfl rfl (cells3 (by simp [go_sem]) (by simp [go_sem]) (by simp [go_sem])) (by simp [Value.oneCell']) (by decide) (by omega) (by unfold maxLen; omega) (by have := hb3.size; simp; omega) ?_; intro g cap w5 hown5 hg5; have hb5 : Below U.heap.size U w5 := ((hb3.alloc hb3.size _).grown hg5 (by have := hb3.size; simp; omega) (fun k hk => (hown3.lt k hk).1)); obtain ⟨m0, m1, m2, m3, m4, m5, _⟩ := KEEP.out _ hb5)
      | (have hlit := (hg3.block U.heap.size (by simp [World.drew]) (fun e => by cases e)).trans (show (U.alloc (.cells #[.int .i64 (n : Int), .int .i64 0, .int .i64 (k : Int)] 36)).drew.heap[U.heap.size]? = some (.cells #[.int .i64 (n : Int), .int .i64 0, .int .i64 (k : Int)] 36 (0, 0)) from heap_alloc_new U _); refine step_app1 rfl _ _ _ rfl rowE rfl hown3 ⟨U.heap.size, 0, none⟩ 1 1 [.int .i64 (n : Int), .int .i64 0, .int .i64 (k : Int)] rfl rfl (cells3 (by simp [World.cell?, hlit]) (by simp [World.cell?, hlit]) (by simp [World.cell?, hlit])) (by simp [Value.oneCell']) (by decide) (by omega) (by unfold maxLen; omega) hb3.size ?_; intro g cap w5 hown5 hg5; have hb5 : Below U.heap.size U w5 := (hb3.grown hg5 hb3.size (fun k hk => (hown3.lt k hk).1)); obtain ⟨m0, m1, m2, m3, m4, m5, _⟩ := KEEP.out _ hb5))
    all_goals
      have hfin := HFIN.out w5 g cap hb5 hown5
      go_wp2_with fail
      go_meet
      exact hfin
  case rest =>
    obtain ⟨⟨g2, c2, htc, hsc⟩, hxc, hbc⟩ := hcut
    have hrt := ahead_right HR.out HN.out hkn (by omega) (by have := HEL.out; omega)
    have het : (aheadS s (k : Int)).es.length = el + 1 := by unfold aheadS; rw [List.length_append, HELE.out]; rfl
    have hnt : (aheadS s (k : Int)).st = ((n + 1 : Nat) : Int) := by unfold aheadS; simp only; rw [HN.out]; omega
    have hcl := brClasses_any (s := aheadS s (k : Int)) (n := n + 1) (c := c2) hrt hnt (by rw [het]; omega) (HG.out.below hbc) (HT.out _ hbc) hsc
    have h1 : (aheadS s (k : Int)).st = (n : Int) + 1 := by unfold aheadS; simp only; rw [HN.out]
    have h2 : (aheadS s (k : Int)).lb = s.lb := rfl
    have h3 : (aheadS s (k : Int)).s0 = s.s0 := rfl
    rw [het, h1, h2, h3] at hcl
    clear h1 h2 h3
    have hnI : ((n + 1 : Nat) : Int) = (n : Int) + 1 := by omega
    have HCL := Lib.hid hcl; have HTC := Lib.hid htc; have HXC := Lib.hid hxc; have HBC := Lib.hid hbc; have HRT := Lib.hid hrt; have HNT := Lib.hid hnt
    obtain ⟨x0, x1, x2, x3, x4⟩ := sysB hxc
    obtain ⟨y0, y1, y2, y3, y4⟩ := sysB htc
    clear htc hsc hxc hbc hrt het hnt hcl hnI HFIN KEEP B0 B1 B2
    go_wp2_with fail
    refine HCL.out.mono ?_
    unfold BrPost
    rintro e w6 ⟨R, ra, rb, rc, hres, rfl, hz0, hrs, hB6⟩
    obtain ⟨C, hbig, rfl, hz1, hz2⟩ := hres.big HRT.out HNT.out
    have htog := ahead_together HR.out HN.out hkn hbig
    have hb6 := HBC.out.trans (hB6.mono HBC.out.size)
    have HX6 := Lib.hid ((hB6.block w.heap.size x4).trans HXC.out)
    have HT6 := Lib.hid ((hB6.block tb y4).trans HTC.out)
    have HB6 := Lib.hid hb6; have HRS := Lib.hid hrs; have HTO := Lib.hid htog
    clear hz0 hz1 hz2 hres hrs hbig htog hB6 hb6 HXC HTC HBC HCL x0 x1 x2 x3 x4 y0 y1 y2 y3 y4
    obtain ⟨x0, x1, x2, x3, x4⟩ := sysB HX6.out
    obtain ⟨y0, y1, y2, y3, y4⟩ := sysB HT6.out
    go_wp2_with fail
    have hc1 : ((n + 1 : Nat) : Int) = (n : Int) + 1 := by omega
    have hd0 : decide ((n : Int) + 1 = (n : Int) + 1) = true := by simp
    have KP : RowKit.Hid (∀ W, Below w6.heap.size w6 W → W.cell? ⟨w.heap.size, 0, none⟩ = some (.int .i64 n) ∧ W.cell? ⟨tb, 0, none⟩ = some (.int .i64 ((n : Int) + 1)) ∧ w.heap.size < W.heap.size ∧ tb < W.heap.size ∧ ra = some ⟨rb, 0, none⟩ ∧ W.cell? ⟨rb, n, none⟩ = some (.int .i64 (C k)) ∧ W.cell? ⟨rb, k, none⟩ = some (.int .i64 (C k)) ∧ rb < W.heap.size) := Lib.hid (fun W hB => by
      have hx := (hB.block w.heap.size x4).trans HX6.out
      have ht := (hB.block tb y4).trans HT6.out
      have hs := HRS.out.below hB (Nat.le_refl _)
      have r0 := hs.ci (fl_get C (show n < n + 1 by omega)); have r1 := hs.ci (fl_get C (show k < n + 1 by omega))
      rw [HTO.out] at r0
      simp only [Nat.zero_add] at r0 r1
      exact ⟨by simp [World.cell?, hx], by simp [World.cell?, ht], Nat.lt_of_lt_of_le x4 hB.size, Nat.lt_of_lt_of_le y4 hB.size, hs.ad (by rw [fl_len]; omega), r0, r1, hs.lt (by rw [fl_len]; omega)⟩)
    obtain rfl := (KP.out w6 (Below.refl _ _)).2.2.2.2.1
    have HB6D := Lib.hid HB6.out.drew
    have B6 : RowKit.Hid (Below w6.heap.size w6 w6.drew) := Lib.hid (Below.refl _ _).drew
    have ALV2 : RowKit.Hid (Calls Tryz.prog 13 #[] w6.drew fun e w' => e = .returned (.bool true) ∧ Below w6.heap.size w6 w' ∧ Below w.heap.size w w') := Lib.hid ((ALV.out _ HB6D.out).mono (by
      rintro e w' ⟨rfl, h1, h2⟩
      exact ⟨rfl, (Below.refl w6.heap.size w6).drew.trans h2, h1⟩))
    have HK : RowKit.Hid (∀ W, Below w6.heap.size w6 W → W.cell? ⟨w.heap.size, 0, none⟩ = some (.int .i64 n) ∧ W.cell? ⟨tb, 0, none⟩ = some (.int .i64 ((n : Int) + 1)) ∧ W.cell? ⟨rb, n, none⟩ = some (.int .i64 (C k)) ∧ W.cell? ⟨rb, k, none⟩ = some (.int .i64 (C k)) ∧ w.heap.size < W.heap.size ∧ tb < W.heap.size ∧ rb < W.heap.size) := Lib.hid (fun W hB => by
      obtain ⟨h0, h1, h2, h3, _, h4, h5, h6⟩ := KP.out W hB
      exact ⟨h0, h1, h4, h5, h2, h3, h6⟩)
    obtain ⟨cv, hcv⟩ : ∃ cv, cv = C k := ⟨_, rfl⟩
    rw [← hcv] at HK
    clear x0 x1 x2 x3 x4 y0 y1 y2 y3 y4 hc1 hd0 hcv KP
    have hbn : (n : Int) < (n : Int) + 1 := by omega
    have hbk : (k : Int) < (n : Int) + 1 := by omega
    refine wp_region_held_drew (S := (fun w' => w'.cell? ⟨w.heap.size, 0, none⟩ = some (.int .i64 n) ∧ w'.cell? ⟨tb, 0, none⟩ = some (.int .i64 ((n : Int) + 1)) ∧ w'.cell? ⟨rb, n, none⟩ = some (.int .i64 cv) ∧ w'.cell? ⟨rb, k, none⟩ = some (.int .i64 cv) ∧ w.heap.size < w'.heap.size ∧ tb < w'.heap.size ∧ rb < w'.heap.size)) (by kernel_rfl) (by (try dsimp only); exact HK.out _ B6.out) (fun hHeld => ?_)
    refine wpAnyH_ready (rs := [0]) (by kernel_rfl) (by simp) ?_
    refine AllReadyH.cons rfl (fun K hK => ?_) AllReadyH.nil
    go_simp
    go_at_call 13
    refine ALV2.out.mono ?_
    rintro e w7 ⟨rfl, hB7, hB7w⟩
    refine hK.out _ _ (by (try dsimp only); exact HK.out _ hB7) (fun hHeld => ?_)
    clear hK K
    try simp only [List.getElem_toArray, List.getElem_cons_zero, List.getElem_cons_succ, Act.put, List.setIfInBounds_toArray, List.set_cons_zero, List.set_cons_succ]
    refine wpAnyH_take (i := 1) (v := ?_) rfl (by kernel_rfl) (by kernel_rfl) (by kernel_rfl) (fun _ _ _ h => h) (Or.inl ⟨by rfl, ?_⟩) (by assumption) ?_
    rotate_left
    · intro w hSw
      try dsimp only at hSw
      go_simp
      try with_reducible rfl
    try simp only [List.getElem_toArray, List.getElem_cons_zero, List.getElem_cons_succ, Act.put, List.setIfInBounds_toArray, List.set_cons_zero, List.set_cons_succ]
    refine wpAnyH_take (i := 2) (v := ?_) rfl (by kernel_rfl) (by kernel_rfl) (by kernel_rfl) (fun _ _ _ h => h) (Or.inl ⟨by rfl, ?_⟩) (by assumption) ?_
    rotate_left
    · intro w hSw
      try dsimp only at hSw
      go_simp
      try with_reducible rfl
    try simp only [List.getElem_toArray, List.getElem_cons_zero, List.getElem_cons_succ, Act.put, List.setIfInBounds_toArray, List.set_cons_zero, List.set_cons_succ]
    refine wpAnyH_take (i := 3) (v := ?_) rfl (by kernel_rfl) (by kernel_rfl) (by kernel_rfl) (fun _ _ _ h => h) (Or.inl ⟨by rfl, ?_⟩) (by assumption) ?_
    rotate_left
    · intro w hSw
      try dsimp only at hSw
      go_simp
      try with_reducible rfl
    try simp only [List.getElem_toArray, List.getElem_cons_zero, List.getElem_cons_succ, Act.put, List.setIfInBounds_toArray, List.set_cons_zero, List.set_cons_succ]
    refine wpAnyH_take (i := 4) (v := ?_) rfl (by kernel_rfl) (by kernel_rfl) (by kernel_rfl) (fun _ _ _ h => h) (Or.inl ⟨by rfl, ?_⟩) (by assumption) ?_
    rotate_left
    · intro w hSw
      try dsimp only at hSw
      go_simp
      try with_reducible rfl
    try simp only [List.getElem_toArray, List.getElem_cons_zero, List.getElem_cons_succ, Act.put, List.setIfInBounds_toArray, List.set_cons_zero, List.set_cons_succ]
    refine wpAnyH_take (i := 5) (v := ?_) rfl (by kernel_rfl) (by kernel_rfl) (by kernel_rfl) (fun _ _ _ h => h) (Or.inl ⟨by rfl, ?_⟩) (by assumption) ?_
    rotate_left
    · intro w hSw
      try dsimp only at hSw
      go_simp
      try with_reducible rfl
    try simp only [List.getElem_toArray, List.getElem_cons_zero, List.getElem_cons_succ, Act.put, List.setIfInBounds_toArray, List.set_cons_zero, List.set_cons_succ]
    refine wpAnyH_take (i := 6) (v := ?_) rfl (by kernel_rfl) (by kernel_rfl) (by kernel_rfl) (fun _ _ _ h => h) (Or.inl ⟨by rfl, ?_⟩) (by assumption) ?_
    rotate_left
    · intro w hSw
      try dsimp only at hSw
      go_simp
      try with_reducible rfl
    try simp only [List.getElem_toArray, List.getElem_cons_zero, List.getElem_cons_succ, Act.put, List.setIfInBounds_toArray, List.set_cons_zero, List.set_cons_succ]
    refine wpAnyH_take (i := 7) (v := ?_) rfl (by kernel_rfl) (by kernel_rfl) (by kernel_rfl) (fun _ _ _ h => h) (Or.inl ⟨by rfl, ?_⟩) (by assumption) ?_
    rotate_left
    · intro w hSw
      try dsimp only at hSw
      go_simp
      try with_reducible rfl
    try simp only [List.getElem_toArray, List.getElem_cons_zero, List.getElem_cons_succ, Act.put, List.setIfInBounds_toArray, List.set_cons_zero, List.set_cons_succ]
    refine wpAnyH_take (i := 8) (v := ?_) rfl (by kernel_rfl) (by kernel_rfl) (by kernel_rfl) (fun _ _ _ h => h) (Or.inl ⟨by rfl, ?_⟩) (by assumption) ?_
    rotate_left
    · intro w hSw
      try dsimp only at hSw
      go_simp
      try with_reducible rfl
    try simp only [List.getElem_toArray, List.getElem_cons_zero, List.getElem_cons_succ, Act.put, List.setIfInBounds_toArray, List.set_cons_zero, List.set_cons_succ]
    refine wpAnyH_take (i := 9) (v := ?_) rfl (by kernel_rfl) (by kernel_rfl) (by kernel_rfl) (fun _ _ _ h => h) (Or.inl ⟨by rfl, ?_⟩) (by assumption) ?_
    rotate_left
    · intro w hSw
      try dsimp only at hSw
      go_simp
      try with_reducible rfl
    try simp only [List.getElem_toArray, List.getElem_cons_zero, List.getElem_cons_succ, Act.put, List.setIfInBounds_toArray, List.set_cons_zero, List.set_cons_succ]
    refine wpAnyH_take (i := 10) (v := ?_) rfl (by kernel_rfl) (by kernel_rfl) (by kernel_rfl) (fun _ _ _ h => h) (Or.inl ⟨by rfl, ?_⟩) (by assumption) ?_
    rotate_left
    · intro w hSw
      try dsimp only at hSw
      go_simp
      try with_reducible rfl
    try simp only [List.getElem_toArray, List.getElem_cons_zero, List.getElem_cons_succ, Act.put, List.setIfInBounds_toArray, List.set_cons_zero, List.set_cons_succ]
    refine wpAnyH_take (i := 11) (v := ?_) rfl (by kernel_rfl) (by kernel_rfl) (by kernel_rfl) (fun _ _ _ h => h) (Or.inl ⟨by rfl, ?_⟩) (by assumption) ?_
    rotate_left
    · intro w hSw
      try dsimp only at hSw
      go_simp
      try with_reducible rfl
    try simp only [List.getElem_toArray, List.getElem_cons_zero, List.getElem_cons_succ, Act.put, List.setIfInBounds_toArray, List.set_cons_zero, List.set_cons_succ]
    refine wpAnyH_take (i := 12) (v := ?_) rfl (by kernel_rfl) (by kernel_rfl) (by kernel_rfl) (fun _ _ _ h => h) (Or.inl ⟨by rfl, ?_⟩) (by assumption) ?_
    rotate_left
    · intro w hSw
      try dsimp only at hSw
      go_simp
      try with_reducible rfl
    try simp only [List.getElem_toArray, List.getElem_cons_zero, List.getElem_cons_succ, Act.put, List.setIfInBounds_toArray, List.set_cons_zero, List.set_cons_succ]
    refine wpAnyH_take (i := 13) (v := ?_) rfl (by kernel_rfl) (by kernel_rfl) (by kernel_rfl) (fun _ _ _ h => h) (Or.inl ⟨by rfl, ?_⟩) (by assumption) ?_
    rotate_left
    · intro w hSw
      try dsimp only at hSw
      go_simp
      try with_reducible rfl
    try simp only [List.getElem_toArray, List.getElem_cons_zero, List.getElem_cons_succ, Act.put, List.setIfInBounds_toArray, List.set_cons_zero, List.set_cons_succ]
    refine wpAnyH_take (i := 14) (v := ?_) rfl (by kernel_rfl) (by kernel_rfl) (by kernel_rfl) (fun _ _ _ h => h) (Or.inl ⟨by rfl, ?_⟩) (by assumption) ?_
    rotate_left
    · intro w hSw
      try dsimp only at hSw
      go_simp
      try with_reducible rfl
    try simp only [List.getElem_toArray, List.getElem_cons_zero, List.getElem_cons_succ, Act.put, List.setIfInBounds_toArray, List.set_cons_zero, List.set_cons_succ]
    refine wpAnyH_take (i := 15) (v := ?_) rfl (by kernel_rfl) (by kernel_rfl) (by kernel_rfl) (fun _ _ _ h => h) (Or.inl ⟨by rfl, ?_⟩) (by assumption) ?_
    rotate_left
    · intro w hSw
      try dsimp only at hSw
      go_simp
      try with_reducible rfl
    try simp only [List.getElem_toArray, List.getElem_cons_zero, List.getElem_cons_succ, Act.put, List.setIfInBounds_toArray, List.set_cons_zero, List.set_cons_succ]
    refine wpAnyH_take (i := 16) (v := ?_) rfl (by kernel_rfl) (by kernel_rfl) (by kernel_rfl) (fun _ _ _ h => h) (Or.inl ⟨by rfl, ?_⟩) (by assumption) ?_
    rotate_left
    · intro w hSw
      try dsimp only at hSw
      go_simp
      try with_reducible rfl
    try simp only [List.getElem_toArray, List.getElem_cons_zero, List.getElem_cons_succ, Act.put, List.setIfInBounds_toArray, List.set_cons_zero, List.set_cons_succ]
    refine wpAnyH_take (i := 17) (v := ?_) rfl (by kernel_rfl) (by kernel_rfl) (by kernel_rfl) (fun _ _ _ h => h) (Or.inl ⟨by rfl, ?_⟩) (by assumption) ?_
    rotate_left
    · intro w hSw
      try dsimp only at hSw
      go_simp
      try with_reducible rfl
    try simp only [List.getElem_toArray, List.getElem_cons_zero, List.getElem_cons_succ, Act.put, List.setIfInBounds_toArray, List.set_cons_zero, List.set_cons_succ]
    refine wpAnyH_take (i := 18) (v := ?_) rfl (by kernel_rfl) (by kernel_rfl) (by kernel_rfl) (fun _ _ _ h => h) (Or.inl ⟨by rfl, ?_⟩) (by assumption) ?_
    rotate_left
    · intro w hSw
      try dsimp only at hSw
      go_simp
      try with_reducible rfl
    try simp only [List.getElem_toArray, List.getElem_cons_zero, List.getElem_cons_succ, Act.put, List.setIfInBounds_toArray, List.set_cons_zero, List.set_cons_succ]
    refine wpAnyH_take (i := 19) (v := ?_) rfl (by kernel_rfl) (by kernel_rfl) (by kernel_rfl) (fun _ _ _ h => h) (Or.inl ⟨by rfl, ?_⟩) (by assumption) ?_
    rotate_left
    · intro w hSw
      try dsimp only at hSw
      go_simp
      try with_reducible rfl
    try simp only [List.getElem_toArray, List.getElem_cons_zero, List.getElem_cons_succ, Act.put, List.setIfInBounds_toArray, List.set_cons_zero, List.set_cons_succ]
    refine wpAnyH_take (i := 20) (v := ?_) rfl (by kernel_rfl) (by kernel_rfl) (by kernel_rfl) (fun _ _ _ h => h) (Or.inl ⟨by rfl, ?_⟩) (by assumption) ?_
    rotate_left
    · intro w hSw
      try dsimp only at hSw
      go_simp
      try with_reducible rfl
    try simp only [List.getElem_toArray, List.getElem_cons_zero, List.getElem_cons_succ, Act.put, List.setIfInBounds_toArray, List.set_cons_zero, List.set_cons_succ]
    refine wpAnyH_take (i := 21) (v := ?_) rfl (by kernel_rfl) (by kernel_rfl) (by kernel_rfl) (fun _ _ _ h => h) (Or.inl ⟨by rfl, ?_⟩) (by assumption) ?_
    rotate_left
    · intro w hSw
      try dsimp only at hSw
      go_simp
      try with_reducible rfl
    try simp only [List.getElem_toArray, List.getElem_cons_zero, List.getElem_cons_succ, Act.put, List.setIfInBounds_toArray, List.set_cons_zero, List.set_cons_succ]
    refine wpAnyH_take (i := 22) (v := ?_) rfl (by kernel_rfl) (by kernel_rfl) (by kernel_rfl) (fun _ _ _ h => h) (Or.inl ⟨by rfl, ?_⟩) (by assumption) ?_
    rotate_left
    · intro w hSw
      try dsimp only at hSw
      go_simp
      try with_reducible rfl
    try simp only [List.getElem_toArray, List.getElem_cons_zero, List.getElem_cons_succ, Act.put, List.setIfInBounds_toArray, List.set_cons_zero, List.set_cons_succ]
    refine wpAnyH_take (i := 23) (v := ?_) rfl (by kernel_rfl) (by kernel_rfl) (by kernel_rfl) (fun _ _ _ h => h) (Or.inl ⟨by rfl, ?_⟩) (by assumption) ?_
    rotate_left
    · intro w hSw
      try dsimp only at hSw
      go_simp
      try with_reducible rfl
    try simp only [List.getElem_toArray, List.getElem_cons_zero, List.getElem_cons_succ, Act.put, List.setIfInBounds_toArray, List.set_cons_zero, List.set_cons_succ]
    refine wpAnyH_take (i := 24) (v := ?_) rfl (by kernel_rfl) (by kernel_rfl) (by kernel_rfl) (fun _ _ _ h => h) (Or.inl ⟨by rfl, ?_⟩) (by assumption) ?_
    rotate_left
    · intro w hSw
      try dsimp only at hSw
      go_simp
      try with_reducible rfl
    try simp only [List.getElem_toArray, List.getElem_cons_zero, List.getElem_cons_succ, Act.put, List.setIfInBounds_toArray, List.set_cons_zero, List.set_cons_succ]
    refine wpAnyH_done (by kernel_rfl) ?_ _
    go_wp2_with fail
    go_ret
    exact ⟨rfl, hB7w⟩
end Go.Proofs.YtopnedihknjjfaaGreatDoor

/-
  law19.WitnessFails.
-/
import Derived.Test.YtbbjmompbmgnmaaDoorWitI
import Derived.Test.YtbbjmompbmgnmaaDoorG8
namespace Go.Proofs.YtbbjmompbmgnmaaDoor
open Go.RowKit Pl

theorem small19_any (s0 st lb : Int) (a : Option Addr) (m c : Nat) (w : World) :
    Calls Tryd.prog 9 #[.agg #[.int .i64 st, .int .i64 lb, .int .i64 s0, .slice a m c]] w fun e w' => e = .returned (.bool (decide (st ≤ 25) && decide (m ≤ 150))) ∧ Below w.heap.size w w' := by
  have hb := (Below.refl w.heap.size w).alloc (Nat.le_refl _) (.cells #[.int .i64 st, .int .i64 lb, .int .i64 s0, .slice a m c] 24)
  by_cases h1 : st ≤ 25
  · have e1 : decide (st ≤ 25) = true := by simp [h1]
    have HE1 := Lib.hid e1
    by_cases h2 : m ≤ 150
    · have e2 : decide (m ≤ 150) = true := by simp [h2]
      have HE2 := Lib.hid e2
      have h2' : (m : Int) ≤ 150 := by omega
      clear e1 e2
      rw [HE1.out, HE2.out]
      go_enter Tryd.func9, Tryd.ntmps9
      go_wp2
      go_ret
      exact ⟨rfl, hb⟩
    · have e2 : decide (m ≤ 150) = false := by simp [h2]
      have HE2 := Lib.hid e2
      have h2' : ¬ (m : Int) ≤ 150 := by omega
      clear e1 e2
      rw [HE1.out, HE2.out]
      go_enter Tryd.func9, Tryd.ntmps9
      go_wp2
      go_ret
      exact ⟨rfl, hb⟩
  · have e1 : decide (st ≤ 25) = false := by simp [h1]
    rw [e1, Bool.false_and]
    clear e1
    go_enter Tryd.func9, Tryd.ntmps9
    go_wp2
    go_ret
    exact ⟨rfl, hb⟩

/-- The world within WitnessFails. -/
structure FIn (w wr : World) (n lb z : Int) (v : Value) (B : Nat) (p q l t : Int) (a : Option Addr) (b off : Nat) (es : List E) (ca : Option Addr) (cb co : Nat) (C : List Int) : Prop where
  bel : Below w.heap.size w wr
  box : wr.heap[w.heap.size]? = some (.cells #[.int .i64 n, .int .i64 lb, .int .i64 z, v] 24 (0, 0))
  fb : wr.heap[B]? = some (.cells #[.int .i64 p, .int .i64 q, .int .i64 l, .int .i64 t] 29 (0, 0))
  es : SlAt encE 3 wr a b off es
  cs : SlAt encI 1 wr ca cb co C
theorem FIn.call {w wr w' : World} {n lb z : Int} {v : Value} {B : Nat} {p q l t : Int} {a : Option Addr} {b off : Nat} {es : List E} {ca : Option Addr} {cb co : Nat} {C : List Int} (h : FIn w wr n lb z v B p q l t a b off es ca cb co C) (hB : Below wr.heap.size wr w') : FIn w w' n lb z v B p q l t a b off es ca cb co C :=
  ⟨h.bel.trans (hB.mono h.bel.size), by rw [hB.block _ (Array.getElem?_eq_some_iff.1 h.box).1]; exact h.box, by rw [hB.block _ (Array.getElem?_eq_some_iff.1 h.fb).1]; exact h.fb, h.es.below hB (Nat.le_refl _), h.cs.below hB (Nat.le_refl _)⟩
theorem failC {w : World} {B : Nat} {a b c d : Int} (h : w.heap[B]? = some (.cells #[.int .i64 a, .int .i64 b, .int .i64 c, .int .i64 d] 29 (0, 0))) :
    w.cell? ⟨B, 0, none⟩ = some (.int .i64 a) ∧ w.cell? ⟨B, 1, none⟩ = some (.int .i64 b) ∧ w.cell? ⟨B, 2, none⟩ = some (.int .i64 c) ∧ w.cell? ⟨B, 3, none⟩ = some (.int .i64 d) ∧ B < w.heap.size := by
  refine ⟨?_, ?_, ?_, ?_, (Array.getElem?_eq_some_iff.1 h).1⟩ <;> simp [World.cell?, h]

/-- What is told as failing: a step of p; no step of q meets it. -/
theorem failD_some {s : Lts} {C : List Int} {p q : Nat} {x : S} (h : failD s.norm C (fun q => plainD s.norm C (q : Int)) p q = some x) : ((p : Int), x.1, x.2) ∈ s.es ∧ ∀ y1 y2 : Int, ((q : Int), y1, y2) ∈ s.es → ¬ (y1 = x.1 ∧ atL C y2 = atL C x.2) := by
  unfold failD at h
  have h1 := List.mem_of_find?_eq_some h
  have h2 := List.find?_some h
  simp only [Bool.not_eq_true', decide_eq_false_iff_not] at h2
  refine ⟨(mem_nf stoE _ _).1 (mem_outs.1 h1), fun y1 y2 hy he => h2 ?_⟩
  unfold plainD
  exact List.mem_map.2 ⟨(y1, y2), mem_outs.2 ((mem_nf stoE _ _).2 hy), by simp [he.1, he.2]⟩
theorem mem_takeE {es : List E} {k : Nat} {x t : E} (hx : es[k]? = some x) : decide (t ∈ es.take (k + 1)) = (decide (t ∈ es.take k) || decide (x = t)) := by
  rw [Bool.eq_iff_iff]
  simp only [decide_eq_true_eq, Bool.or_eq_true]
  rw [take_snoc hx, List.mem_append, List.mem_singleton]
  exact or_congr Iff.rfl eq_comm

set_option maxRecDepth 100000 in
set_option maxHeartbeats 4000000 in
theorem witnessFails_any {w : World} {p pc : Addr} (hG : GErr 0 p w) (hT : ErrType w) (hE : GErr 1 pc w) {s : Lts} {a : Option Addr} {b off c : Nat} (hS : SlAt encE 3 w a b off s.es) {C : List Int} {ca : Option Addr} {cb co cc : Nat} (hCS : SlAt encI 1 w ca cb co C) (hwf : ∀ x ∈ C, (Lit.int .i64 x).wf = true) :
    Calls Tryd.prog 3 #[.agg #[.int .i64 s.st, .int .i64 s.lb, .int .i64 s.s0, .slice a s.es.length c], .slice ca C.length cc] w fun e w' => e = .returned (.bool true) ∧ Below w.heap.size w w' := by
  have hB0 := (Below.refl w.heap.size w).alloc (Nat.le_refl _) (Obj.cells #[.int .i64 s.st, .int .i64 s.lb, .int .i64 s.s0, .slice a s.es.length c] 24)
  have hbx := heap_alloc_new w (Obj.cells #[.int .i64 s.st, .int .i64 s.lb, .int .i64 s.s0, .slice a s.es.length c] 24)
  have HG := Lib.hid hG; have HT := Lib.hid hT; have HE := Lib.hid hE; have HS := Lib.hid hS; have HB0 := Lib.hid hB0; have HBX := Lib.hid hbx; have HCS := Lib.hid hCS; have HWF := Lib.hid hwf
  clear hG hT hE hS hB0 hbx hCS hwf
  have ALV : RowKit.Hid (∀ w1 : World, Below w.heap.size w w1 → Calls Tryd.prog 10 #[] w1 fun e w' => e = .returned (.bool true) ∧ Below w.heap.size w w' ∧ Below w1.heap.size w1 w') := Lib.hid (by
    intro w1 h1
    refine (alive19_any (HG.out.below h1)).mono ?_
    rintro e w' ⟨rfl, hB⟩
    exact ⟨rfl, h1.trans (hB.mono h1.size), hB⟩)
  by_cases hsm : (decide (s.st ≤ 25) && decide (s.es.length ≤ 150)) = false
  · go_enter Tryd.func3, Tryd.ntmps3
    go_wp2_with fail
    refine (small19_any _ _ _ _ _ _ _).mono ?_
    rintro e w1 ⟨rfl, hB⟩
    rw [hsm]
    have HB1 := Lib.hid (HB0.out.trans (hB.mono (by simp)))
    clear hB hsm
    go_wp2_with fail
    refine (ALV.out _ HB1.out).mono ?_
    rintro e w2 ⟨rfl, hB, _⟩
    go_wp2
    go_ret
    exact ⟨rfl, hB⟩
  have hsm : (decide (s.st ≤ 25) && decide (s.es.length ≤ 150)) = true := by simpa using hsm
  have HSM := Lib.hid hsm
  have HL : RowKit.Hid (s.es.length ≤ 150 ∧ s.st ≤ 25) := Lib.hid (by simp at hsm; exact ⟨hsm.2, hsm.1⟩)
  clear hsm
  -- what the call of Strong is: an error, or all of the walk's words
  have HST : RowKit.Hid (∀ W, Below w.heap.size w W → Calls Tryd.prog 11 #[.agg #[.int .i64 s.st, .int .i64 s.lb, .int .i64 s.s0, .slice a s.es.length c], .slice ca C.length cc] W fun e w' =>
      ((∃ fb, e = .returned (.tuple #[.agg #[.int .i64 0, .int .i64 0, .int .i64 0, .int .i64 0], .bool false, .iface 143 (.pointer (some ⟨fb, 0, none⟩))])) ∨ (s.Right ∧ clB s.st C = true ∧ WalkE s.norm C.length C (fun q => plainD s.norm C (q : Int)) e)) ∧ Below W.heap.size W w') := Lib.hid (by
    intro W hW
    by_cases hr : s.Right
    · by_cases hc : clB s.st C = true
      · have hlen : C.length ≤ 1000000 := by
          unfold clB at hc; simp at hc
          have := HL.out; omega
        refine (strongYes_any hr hc (HG.out.below hW) (HS.out.below hW (Nat.le_refl _)) (HCS.out.below hW (Nat.le_refl _)) hlen HWF.out).mono ?_
        rintro e w' ⟨h1, h2⟩
        exact ⟨.inr ⟨hr, hc, h1⟩, h2⟩
      · have hc : clB s.st C = false := by simpa using hc
        have hno : NoCls W s (.slice a s.es.length c) (.slice ca C.length cc) := by
          by_cases hl : (C.length : Int) = s.st
          · exact noCls_of hc (HCS.out.below hW (Nat.le_refl _)) HWF.out (by have := HL.out; omega)
          · exact noCls_len hl
        refine (strongBad_any hr (HG.out.below hW) (HE.out.below hW) (HS.out.below hW (Nat.le_refl _)) hno).mono ?_
        rintro e w' ⟨v, rfl, h1, h2⟩
        obtain ⟨fb, rfl, _⟩ := h1.ex
        exact ⟨.inl ⟨fb, rfl⟩, h2⟩
    · refine (strongNo_any hr (HG.out.below hW) (HT.out.below hW) (HS.out.below hW (Nat.le_refl _))).mono ?_
      rintro e w' ⟨v, rfl, ⟨vi, h1, _⟩, h2⟩
      obtain ⟨fb, rfl, _⟩ := h1.ex
      exact ⟨.inl ⟨fb, rfl⟩, h2⟩)
  have hq := eqlFail 0 0 0 0 0 0 0 0
  have hgd := guardFail
  have hge := guardE
  go_enter Tryd.func3, Tryd.ntmps3
  go_wp2_with fail
  refine (small19_any _ _ _ _ _ _ _).mono ?_
  rintro e w1 ⟨rfl, hB⟩
  rw [HSM.out]
  have HB1 := Lib.hid (HB0.out.trans (hB.mono (by simp)))
  have hx1 := (hB.block w.heap.size (by simp)).trans HBX.out
  obtain ⟨x0, x1, x2, x3, x4⟩ := sysC hx1
  have HX1 := Lib.hid hx1
  clear hB hx1 HBX HB0 HSM
  go_wp2_with fail
  refine (HST.out _ HB1.out).mono ?_
  rintro e w2 ⟨hor, hB2⟩
  have hB02 := HB1.out.trans (hB2.mono HB1.out.size)
  have hx2 := (hB2.block w.heap.size x4).trans HX1.out
  have HB02 := Lib.hid hB02; have HX2 := Lib.hid hx2
  clear hB2 hB02 hx2 x0 x1 x2 x3 x4 HX1 HB1 HST
  rcases hor with ⟨fb, rfl⟩ | ⟨hr, hc, hW⟩
  · -- an error
    go_wp2_with fail
    have hf := heap_alloc_new w2 (.cells #[.int .i64 0, .int .i64 0, .int .i64 0, .int .i64 0] 29)
    have hb3 := HB02.out.alloc HB02.out.size (.cells #[.int .i64 0, .int .i64 0, .int .i64 0, .int .i64 0] 29)
    refine (ALV.out _ hb3).mono ?_
    rintro e w4 ⟨rfl, hB4, hBs⟩
    obtain ⟨f0, f1, f2, f3, f4⟩ := failC ((hBs.block w2.heap.size (by simp)).trans hf)
    have HB4 := Lib.hid hB4
    clear hf hb3 hB4 hBs
    go_wp2_with fail
    go_ret
    exact ⟨rfl, HB4.out⟩
  · rcases hW with ⟨P, Q, x, hP, hQ, hPQ, hf, _, rfl⟩ | ⟨_, rfl⟩
    · have hst := hr.st0
      have hcl : (C.length : Int) = s.st := by unfold clB at hc; simp at hc; exact hc.1
      obtain ⟨hfe, hfn⟩ := failD_some hf
      obtain ⟨l, t'⟩ := x
      simp only at hfe hfn
      have htr := offB_false.1 (hr.edges _ hfe)
      simp only at htr
      obtain ⟨t, rfl⟩ := Int.eq_ofNat_of_zero_le htr.2.2.2.2.1
      obtain ⟨n, hn⟩ : ∃ n, n = C.length := ⟨_, rfl⟩
      have hsn : s.st = (n : Int) := by omega
      rw [← hn] at hP hQ ⊢
      have htn : t < n := by omega
      have hn25 : n ≤ 1000 := by omega
      have hX2 := HX2.out
      have hf3 := heap_alloc_new w2 (.cells #[.int .i64 P, .int .i64 Q, .int .i64 l, .int .i64 t] 29)
      have hb3 := HB02.out.alloc HB02.out.size (.cells #[.int .i64 P, .int .i64 Q, .int .i64 l, .int .i64 t] 29)
      rw [hsn] at hX2
      have hfi : FIn w (w2.alloc (.cells #[.int .i64 P, .int .i64 Q, .int .i64 l, .int .i64 t] 29)) n s.lb s.s0 (.slice a s.es.length c) w2.heap.size P Q l t a b off s.es ca cb co C :=
        ⟨hb3, (Below.heap_alloc w2 _ w.heap.size (Array.getElem?_eq_some_iff.1 hX2).1).trans hX2, hf3, HS.out.below hb3 (Nat.le_refl _), HCS.out.below hb3 (Nat.le_refl _)⟩
      have HFI := Lib.hid hfi; have HFE := Lib.hid hfe; have HFN := Lib.hid hfn; have HR := Lib.hid hr; have HPQ := Lib.hid hPQ; have HCN := Lib.hid hn; have HSN := Lib.hid hsn
      clear hst hc hcl hfe hfn hf htr hsn hX2 hf3 hb3 hfi hr hPQ HX2 HB02 hq hgd hn
      go_upto_region 4 with fail
      obtain ⟨W, hW⟩ : ∃ W, W = w2.alloc (.cells #[.int .i64 P, .int .i64 Q, .int .i64 l, .int .i64 t] 29) := ⟨_, rfl⟩
      obtain ⟨fb, hfb⟩ : ∃ fb, fb = w2.heap.size := ⟨_, rfl⟩
      rw [← hW, ← hfb] at HFI
      rw [← hW, ← hfb]
      clear hW hfb
      obtain ⟨f0, f1, f2, f3, f4⟩ := failC HFI.out.fb
      obtain ⟨x0, x1, x2, x3, x4⟩ := sysC HFI.out.box
      have hcs := HFI.out.cs
      obtain rfl := hcs.ad (by have := HCN.out; omega)
      obtain ⟨u, hu⟩ := getElem?_of_lt (xs := C) (i := P) (by have := HCN.out; omega)
      obtain ⟨u2, hu2⟩ := getElem?_of_lt (xs := C) (i := Q) (by have := HCN.out; omega)
      have huu : u2 = u := by
        have h1 := HPQ.out
        unfold atL at h1
        rw [List.getD_eq_getElem?_getD, List.getD_eq_getElem?_getD] at h1
        simp [hu, hu2] at h1
        exact h1.symm
      subst huu
      have c1 := hcs.ci hu; have c2 := hcs.ci hu2
      have cl := hcs.lt (by have := HCN.out; omega)
      have d1 : decide ((P : Int) < 0) = false := by simp
      have d2 : decide ((Q : Int) < 0) = false := by simp
      have d3 : decide (n ≤ P) = false := by simp; omega
      have d4 : decide (n ≤ Q) = false := by simp; omega
      have e3 : (P : Int) < (n : Int) := by omega
      have e4 : (Q : Int) < (n : Int) := by omega
      clear hcs hu hu2 HPQ
      go_wp2_with fail
      go_quiet (fail)
      go_wp2_with fail
      have hf4 := HFI.out.call (w' := W.drewN nq) (bdrew (Below.refl _ _))
      have HF4 := Lib.hid hf4
      clear d1 d2 d3 d4 f0 f1 f2 f3 f4 x0 x1 x2 x3 x4 c1 c2 cl hf4 HFI
      go_loopw [8, 10, 71] (fun v8 _ v71 wr => ∃ k : Nat, v71 = .int .i64 k ∧ k ≤ s.es.length ∧ v8 = .bool (decide (((P : Int), l, (t : Int)) ∈ s.es.take k)) ∧ FIn w wr n s.lb s.s0 (.slice a s.es.length c) fb P Q l t a b off s.es (some ⟨cb, co, none⟩) cb co C) (fun _ _ v71 _ => s.es.length - (intOf v71).toNat)
      case atStart => exact ⟨0, rfl, Nat.zero_le _, by simp, HF4.out⟩
      case round =>
        obtain ⟨k, rfl, hk, hv, hfi⟩ := hrel
        obtain ⟨bb, hbb⟩ : ∃ bb, bb = decide (((P : Int), l, (t : Int)) ∈ s.es.take k) := ⟨_, rfl⟩
        rw [← hbb] at hv
        subst hv
        have HBB := Lib.hid hbb; have HFR := Lib.hid hfi
        clear hbb hfi HF4
        have hel : (s.es.length : Int) ≤ 150 := by have := HL.out; omega
        by_cases hlt : k < s.es.length
        · obtain ⟨e0, he⟩ := getElem?_of_lt hlt
          have hes := HFR.out.es
          obtain rfl := hes.ad (by omega)
          have p0 := hes.e0 he; have p1 := hes.e1 he; have p2 := hes.e2 he
          have pl := hes.lt (by omega)
          have hmem := List.mem_of_getElem? he
          have her := offB_false.1 (HR.out.edges e0 hmem)
          have hmt := mem_takeE (t := ((P : Int), l, (t : Int))) he
          obtain ⟨cc', hcc⟩ : ∃ cc', cc' = decide (e0 = ((P : Int), l, (t : Int))) := ⟨_, rfl⟩
          have hq : ∀ w, (binOp .eql 35 (.agg #[.int .i64 e0.1, .int .i64 e0.2.1, .int .i64 e0.2.2]) (.agg #[.int .i64 P, .int .i64 l, .int .i64 t])).run Tryd.prog w = .ok (.bool cc') w := fun w => by rw [hcc]; exact eqlE e0 ((P : Int), l, (t : Int)) w
          rw [← hcc, ← HBB.out] at hmt
          have hno := HFN.out
          obtain ⟨y1, y2, y3⟩ := e0
          simp only at p0 p1 p2 hq her
          obtain ⟨tt, rfl⟩ := Int.eq_ofNat_of_zero_le her.2.2.2.2.1
          have hsn := HSN.out
          have httn : tt < n := by omega
          have hno2 : y1 = (Q : Int) → y2 = l → atL C (tt : Int) ≠ atL C (t : Int) := fun h1 h2 h3 => by
            subst h1; exact hno y2 tt hmem ⟨h2, h3⟩
          have hcs := HFR.out.cs
          obtain ⟨u3, hu3⟩ := getElem?_of_lt (xs := C) (i := tt) (by have := HCN.out; omega)
          obtain ⟨u4, hu4⟩ := getElem?_of_lt (xs := C) (i := t) (by have := HCN.out; omega)
          have c3 := hcs.ci hu3; have c4 := hcs.ci hu4
          have cl := hcs.lt (by have := HCN.out; omega)
          have a3 : atL C (tt : Int) = u3 := by unfold atL; rw [List.getD_eq_getElem?_getD]; simp [hu3]
          have a4 : atL C (t : Int) = u4 := by unfold atL; rw [List.getD_eq_getElem?_getD]; simp [hu4]
          rw [a3, a4] at hno2
          obtain ⟨f0, f1, f2, f3, f4⟩ := failC HFR.out.fb
          have i1 : (tt : Int) < (n : Int) := by omega
          have i2 : (t : Int) < (n : Int) := by omega
          have hkI : (k : Int) < (s.es.length : Int) := by omega
          have HMT := Lib.hid hmt; have HNO := Lib.hid hno2
          have hnx : ∀ u, FIn w ((wr.alloc (.cells #[.int .i64 y1, .int .i64 y2, .int .i64 tt] 35)).drewN u) n s.lb s.s0 (.slice (some ⟨b, off, none⟩) s.es.length c) fb P Q l t (some ⟨b, off, none⟩) b off s.es (some ⟨cb, co, none⟩) cb co C := fun u => HFR.out.call (bdrew (bAlloc (Below.refl _ _) _))
          have HNX := Lib.hid hnx
          clear hes he hmem her hmt hcc hno hsn hno2 hcs hu3 hu4 a3 a4 hnx HFR HBB hlt
          obtain ⟨b2, hb2⟩ : ∃ b2, b2 = (bb || cc') := ⟨_, rfl⟩
          have HB2 := Lib.hid hb2
          clear hb2
          have hrelk : ∀ z : Bool, z = (bb || cc') → z = decide (((P : Int), l, (t : Int)) ∈ s.es.take (k + 1)) := fun z hz => by rw [HMT.out, hz]
          have HRK := Lib.hid hrelk
          clear hrelk
          by_cases h1 : y1 = (Q : Int)
          · have k1 : (y1 == (Q : Int)) = true := by simp [h1]
            by_cases h2 : y2 = l
            · have k2 : (y2 == l) = true := by simp [h2]
              have k3 : (u3 == u4) = false := by simpa using HNO.out h1 h2
              have HH1 := Lib.hid h1; have HH2 := Lib.hid h2
              clear h1 h2
              cases bb <;> cases cc' <;>
              · go_wp2_with fail
                go_quiet (fail)
                go_wp2_with fail
                go_roundw
                case rel => exact ⟨k + 1, by go_num, by omega, congrArg Value.bool (HRK.out _ (by rfl)), HNX.out _⟩
                case measure => simp [intOf]; omega
            · have k2 : (y2 == l) = false := by simp [h2]
              clear h1 h2
              cases bb <;> cases cc' <;>
              · go_wp2_with fail
                go_quiet (fail)
                go_wp2_with fail
                go_roundw
                case rel => exact ⟨k + 1, by go_num, by omega, congrArg Value.bool (HRK.out _ (by rfl)), HNX.out _⟩
                case measure => simp [intOf]; omega
          · have k1 : (y1 == (Q : Int)) = false := by simp [h1]
            clear h1
            cases bb <;> cases cc' <;>
            · go_wp2_with fail
              go_quiet (fail)
              go_wp2_with fail
              go_roundw
              case rel => exact ⟨k + 1, by go_num, by omega, congrArg Value.bool (HRK.out _ (by rfl)), HNX.out _⟩
              case measure => simp [intOf]; omega
        · have hkk : s.es.length = k := by omega
          have hfin : bb = true := by
            rw [HBB.out, ← hkk, List.take_length]
            simp [HFE.out]
          subst hfin
          clear HBB
          go_wp2_with fail
          refine (ALV.out _ HFR.out.bel).mono ?_
          rintro e w9 ⟨rfl, hB, _⟩
          go_wp2
          go_ret
          exact ⟨rfl, hB⟩
    · go_wp2_with fail
      have hf := heap_alloc_new w2 (.cells #[.int .i64 0, .int .i64 0, .int .i64 0, .int .i64 0] 29)
      have hb3 := HB02.out.alloc HB02.out.size (.cells #[.int .i64 0, .int .i64 0, .int .i64 0, .int .i64 0] 29)
      refine (ALV.out _ hb3).mono ?_
      rintro e w4 ⟨rfl, hB4, hBs⟩
      obtain ⟨f0, f1, f2, f3, f4⟩ := failC ((hBs.block w2.heap.size (by simp)).trans hf)
      have HB4 := Lib.hid hB4
      clear hf hb3 hB4 hBs
      go_wp2_with fail
      go_ret
      exact ⟨rfl, HB4.out⟩
end Go.Proofs.YtbbjmompbmgnmaaDoor

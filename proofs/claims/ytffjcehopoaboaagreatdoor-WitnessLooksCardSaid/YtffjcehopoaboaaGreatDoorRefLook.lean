/-
  Lemmas.
-/
import Derived.Test.YtffjcehopoaboaaGreatDoorGStepsP
import Derived.Test.YtffjcehopoaboaaGreatDoorGRefSame7
import Derived.Test.YtffjcehopoaboaaGreatDoorRefSteps
import Derived.Test.YtffjcehopoaboaaGreatDoorGWitC
import Derived.Test.YtffjcehopoaboaaGreatDoorGJoinP
import Derived.Deep.RegionHeldLaw
import Derived.Deep.CutBlock
import Derived.Deep.QuietTactic
import Derived.BigQuiet
namespace Go.Proofs.YtffjcehopoaboaaGreatDoor
open Go.RowKit Pl
open Lib (hid)
def LookE (s : Lts) (n : Nat) (C : List Int) (D : Nat → List S) (e : Ending) : Prop :=
  (∃ (p q : Nat) (x : S), p < n ∧ q < n ∧ atL C (p : Int) = atL C (q : Int) ∧ failD s C D p q = some x ∧ (∀ p' q', p' < n → q' < n → (p' < p ∨ (p' = p ∧ q' < q)) → atL C (p' : Int) = atL C (q' : Int) → failD s C D p' q' = none) ∧
    e = .returned (.tuple #[.agg #[.int .i64 p, .int .i64 q, .int .i64 x.1, .int .i64 x.2], .bool false])) ∨
  ((∀ p q, p < n → q < n → atL C (p : Int) = atL C (q : Int) → failD s C D p q = none) ∧ e = .returned (.tuple #[.agg #[.int .i64 0, .int .i64 0, .int .i64 0, .int .i64 0], .bool true]))
noncomputable def DL (kd : Int) (s : Lts) (C : List Int) (q : Nat) : List S := if kd = 1 then plainD s C (q : Int) else if kd = 2 then lateD s C q else looseD s C q
theorem dl1 : DL 1 = fun (s : Lts) (C : List Int) (q : Nat) => plainD s C (q : Int) := by funext s C q; simp [DL]
theorem dl2 : DL 2 = lateD := by funext s C q; simp [DL]
theorem dl3 : DL 3 = looseD := by funext s C q; simp [DL]
theorem list_flL {C : List Int} {n : Nat} (h : C.length = n) : fl n (fun i => C.getD i 0) = C := by
  apply List.ext_getElem?
  intro i
  by_cases hi : i < n
  · rw [fl_get _ hi, List.getD_eq_getElem?_getD, List.getElem?_eq_getElem (by omega)]
    rfl
  · rw [List.getElem?_eq_none (by rw [fl_len]; omega), List.getElem?_eq_none (by omega)]
theorem any_le {f : Nat → Bool} {m : Bool} {r n : Nat} (h : (m || (List.range r).any f) = true) (hr : r ≤ n) : (m || (List.range n).any f) = true := by
  rw [Bool.or_eq_true] at h ⊢
  refine h.imp id (fun h => ?_)
  rw [List.any_eq_true] at h ⊢
  obtain ⟨x, hx, h⟩ := h
  exact ⟨x, List.mem_range.2 (by have := List.mem_range.1 hx; omega), h⟩
theorem any_range_succ {f : Nat → Bool} {r : Nat} : (List.range (r + 1)).any f = ((List.range r).any f || f r) := by
  rw [List.range_succ, List.any_append]; simp
set_option maxRecDepth 100000 in
set_option maxHeartbeats 16000000 in
theorem look1_any {s : Lts} {n lb : Nat} (hr : s.Right) (hn : s.st = (n : Int)) (hn3 : n ≤ 300) (hlb : s.lb = (lb : Int)) {a : Option Addr} {b off c : Nat} {w : World} (hS : SlAt encE 3 w a b off s.es) (hc : s.es.length ≤ c) (hcm : c ≤ maxLen)
    {C : List Int} (hCl : C.length = n) {f : Nat → Int} (hCf : C = fl n f) {ca : Option Addr} {cb co cc : Nat} (hC : SlAt encI 1 w ca cb co C) :
    Calls Tryz.prog 32 #[.agg #[.int .i64 s.st, .int .i64 s.lb, .int .i64 s.s0, .slice a s.es.length c], .slice ca n cc, .int .i64 1] w fun e w' => LookE s.norm n C (fun q => plainD s.norm C (q : Int)) e ∧ Below w.heap.size w w' := by
  obtain ⟨W, hW⟩ : ∃ W, W = (w.alloc (.cells #[.int .i64 s.st, .int .i64 s.lb, .int .i64 s.s0, .slice a s.es.length c] 24)).alloc (.cells #[.int .i64 0, .int .i64 0, .int .i64 0, .int .i64 0] 71) := ⟨_, rfl⟩
  have hB0 : Below w.heap.size w W := by rw [hW]; exact ((Below.refl _ _).alloc (Nat.le_refl _) _).alloc (by simp) _
  have h1 : W.heap[w.heap.size]? = some (.cells #[.int .i64 s.st, .int .i64 s.lb, .int .i64 s.s0, .slice a s.es.length c] 24 (0, 0)) := by
    rw [hW, Below.heap_alloc _ _ _ (by simp)]; exact heap_alloc_new w _
  have h2 : W.heap[w.heap.size + 1]? = some (.cells #[.int .i64 0, .int .i64 0, .int .i64 0, .int .i64 0] 71 (0, 0)) := by
    have h := heap_alloc_new (w.alloc (.cells #[.int .i64 s.st, .int .i64 s.lb, .int .i64 s.s0, .slice a s.es.length c] 24)) (.cells #[.int .i64 0, .int .i64 0, .int .i64 0, .int .i64 0] 71)
    rw [show (w.alloc (.cells #[.int .i64 s.st, .int .i64 s.lb, .int .i64 s.s0, .slice a s.es.length c] 24)).heap.size = w.heap.size + 1 by simp] at h
    rw [hW]; exact h
  have hou : Calls Tryz.prog 44 #[.agg #[.int .i64 s.st, .int .i64 s.lb, .int .i64 s.s0, .slice a s.es.length c]] W fun e w' => ∃ ob, e = .returned (.slice (some ⟨ob, 0, none⟩) n n) ∧ StepsIn w' ob n (fun p => s.norm.outs (p : Int)) ∧ Below W.heap.size W w' := by
    refine (refOut_any hr (hS.below hB0 (Nat.le_refl _)) hc hcm).mono ?_
    rintro e w' ⟨ob, n', base, hn', rfl, hrows, _, hB⟩
    obtain rfl : n = n' := by omega
    exact ⟨ob, rfl, StepsIn.of hrows, hB⟩
  obtain ⟨el, hel⟩ : ∃ el, el = s.es.length := ⟨_, rfl⟩
  rw [hn, ← hel] at hou hW h1
  rw [hn, ← hel]
  have HR := hid hr; have HN := hid hn; have HLB := hid hlb; have HW := hid hW; have HB0 := hid hB0; have H1 := hid h1; have H2 := hid h2; have HOU := hid hou; have HC := hid hC; have HCL := hid hCl; have HCF := hid hCf
  clear hr hn hlb hS hc hcm hCl hCf hC hW hB0 h1 h2 hou hel
  go_enter Tryz.func32, Tryz.ntmps32
  go_wp2_with fail
  rw [← HW.out]
  obtain ⟨x0, x1, x2, x3, x4⟩ := sysC H1.out
  go_wp2_with fail
  refine HOU.out.mono ?_
  rintro e w2 ⟨ob, rfl, hso, hB2⟩
  have HX := hid ((hB2.block _ (Array.getElem?_eq_some_iff.1 H1.out).1).trans H1.out)
  have HF := hid ((hB2.block _ (Array.getElem?_eq_some_iff.1 H2.out).1).trans H2.out)
  have HB2 := hid (HB0.out.trans (hB2.mono HB0.out.size)); have HSO := hid hso
  clear x0 x1 x2 x3 x4 hB2 hso HOU HB0 H1 H2 HW
  obtain ⟨x0, x1, x2, x3, x4⟩ := sysC HX.out
  go_wp2_with fail
  clear x0 x1 x2 x3 x4
  have HCX : Hid (∀ i, i < n → C[i]? = some (atL C (i : Int))) := hid (fun i hi => by
    unfold atL
    rw [Int.toNat_natCast, List.getD_eq_getElem?_getD]
    have := List.getElem?_eq_getElem (l := C) (i := i) (by have := HCL.out; omega)
    rw [this]; rfl)
  obtain ⟨F, hF⟩ : ∃ F : Nat → Nat → Option S, F = fun p q => failD s.norm C (fun q => plainD s.norm C (q : Int)) p q := ⟨_, rfl⟩
  have HFE := hid hF
  clear hF
  go_loopw [10, 11, 12, 13, 14, 15, 16, 120, 129] (fun v10 _ _ _ _ _ _ _ _ wr => ∃ p : Nat, v10 = .int .i64 p ∧ p ≤ n ∧ Below w2.heap.size w2 wr ∧ ∀ p' q', p' < n → q' < n → p' < p → atL C (p' : Int) = atL C (q' : Int) → F p' q' = none) (fun v10 _ _ _ _ _ _ _ _ _ => n - (intOf v10).toNat)
  case atStart => exact ⟨0, rfl, Nat.zero_le _, Below.refl _ _, fun _ _ _ _ h => by omega⟩
  case round =>
    obtain ⟨p, rfl, hp, hB, hno⟩ := hrel
    have HB := hid hB; have HNO := hid hno
    have hxr := (hB.block w.heap.size (Array.getElem?_eq_some_iff.1 HX.out).1).trans HX.out
    obtain ⟨x0, x1, x2, x3, x4⟩ := sysC hxr
    clear hB hno hxr
    by_cases hpn : p < n
    · have hpI : (p : Int) < (n : Int) := by omega
      go_wp2_with fail
      clear x0 x1 x2 x3 x4
      go_loopw [11, 12, 13, 14, 15, 16, 120, 129] (fun v11 _ _ _ _ _ _ _ wr => ∃ q : Nat, v11 = .int .i64 q ∧ q ≤ n ∧ Below w2.heap.size w2 wr ∧ ∀ q', q' < n → q' < q → atL C (p : Int) = atL C (q' : Int) → F p q' = none) (fun v11 _ _ _ _ _ _ _ _ => n - (intOf v11).toNat)
      case atStart => exact ⟨0, rfl, Nat.zero_le _, HB.out, fun _ _ h => by omega⟩
      case round =>
        obtain ⟨q, rfl, hq, hB, hno⟩ := hrel
        have HB := hid hB; have HNQ := hid hno
        have hxr := (hB.block w.heap.size (Array.getElem?_eq_some_iff.1 HX.out).1).trans HX.out
        obtain ⟨x0, x1, x2, x3, x4⟩ := sysC hxr
        have hcw := HC.out.below (HB2.out.trans (hB.mono HB2.out.size)) (Nat.le_refl _)
        clear hB hno hxr
        by_cases hqn : q < n
        · have hqI : (q : Int) < (n : Int) := by omega
          obtain rfl := hcw.ad (by rw [HCL.out]; omega)
          have c0 := hcw.ci (HCX.out p hpn)
          have cl := World.block_lt_of_cell? _ _ c0
          by_cases hpq : p = q
          · subst hpq
            obtain ⟨cp, hcp⟩ : ∃ cp, cp = atL C (p : Int) := ⟨_, rfl⟩
            rw [← hcp] at c0
            have hcc : (cp != cp) = false := by simp
            have hself : F p p = none := by
              rw [HFE.out]
              unfold failD
              simp only
              rw [List.find?_eq_none]
              intro x hx
              have : (x.1, atL C x.2) ∈ plainD s.norm C (p : Int) := List.mem_map.2 ⟨x, hx, rfl⟩
              simp [this]
            have HSELF := hid hself
            clear hcw hself hcp
            go_wp2_with fail
            go_quiet (fail)
            go_wp2_with fail
            go_roundw
            case rel => exact ⟨p + 1, by go_num, by omega, bdrew HB.out, fun q' h1 h2 h3 => by
              rcases Nat.lt_or_ge q' p with h | h
              · exact HNQ.out q' h1 h h3
              · obtain rfl : q' = p := by omega
                exact HSELF.out⟩
            case measure => simp [intOf]; omega
          · have hpqI : ¬ (p : Int) = (q : Int) := by omega
            have hpqb : ((p : Int) == (q : Int)) = false := by simp [hpqI]
            have d0 := hcw.ci (HCX.out q hqn)
            by_cases hcc : atL C (p : Int) = atL C (q : Int)
            · rw [hcc] at c0
              have HCC := hid hcc
              obtain ⟨cq, hcq⟩ : ∃ cq, cq = atL C (q : Int) := ⟨_, rfl⟩
              rw [← hcq] at c0 d0
              have hc2 : (cq != cq) = false := by simp
              have HCQ := hid hcq
              clear hcw hcq
              go_wp2_with fail
              go_quiet (fail)
              clear hpqI hpq
              go_wp2_with fail
              obtain ⟨wQ, hwQ⟩ : ∃ wQ, wQ = wr.drewN nq := ⟨_, rfl⟩
              have HBQ : Hid (Below w2.heap.size w2 wQ) := hid (by rw [hwQ]; exact bdrew HB.out)
              rw [← hwQ]
              clear hwQ c0 d0 cl HB x0 x1 x2 x3 x4
              obtain ⟨pL, hpL⟩ : ∃ pL, pL = s.norm.outs (p : Int) := ⟨_, rfl⟩
              have hpl : pL.length ≤ 10000 := by rw [hpL]; exact outs_len HR.out.norm _
              have HPR : Hid (∀ V, Below wQ.heap.size wQ V → ∃ ra rc rb ro, V.cell? ⟨ob, p, none⟩ = some (.slice ra pL.length rc) ∧ SlAt encS 2 V ra rb ro pL ∧ ob < V.heap.size) := hid (fun V hV => by
                have hV2 := HBQ.out.trans (hV.mono HBQ.out.size)
                obtain ⟨ra, rc, rb, ro, h1, h2⟩ := (HSO.out.below hV2).at_ p hpn
                rw [← hpL] at h1 h2
                exact ⟨ra, rc, rb, ro, h1, h2, (HSO.out.below hV2).lt⟩)
              have HRG : Hid (∀ (L : List S) (k : Nat), L = s.norm.outs (k : Int) → ∀ x ∈ L, 0 ≤ x.2 ∧ x.2 < (n : Int)) := hid (fun L k hL x hx => by
                rw [hL] at hx
                have h := offB_false.1 (HR.out.norm.edges _ (mem_outs.1 hx))
                have hn := HN.out
                have e : s.norm.st = s.st := rfl
                simp only at h
                omega)
              obtain ⟨rL, hrL⟩ : ∃ rL, rL = s.norm.outs (q : Int) := ⟨_, rfl⟩
              have hrl : rL.length ≤ 1000000 := by
                rw [hrL]
                have := outs_len HR.out.norm (q : Int); omega
              have hrr : ∀ x ∈ rL, 0 ≤ x.2 ∧ x.2 < (n : Int) := HRG.out rL q hrL
              have HQR : Hid (∀ V, Below wQ.heap.size wQ V → ∃ ra rc rb ro, V.cell? ⟨ob, q, none⟩ = some (.slice ra rL.length rc) ∧ SlAt encS 2 V ra rb ro rL ∧ ob < V.heap.size) := hid (fun V hV => by
                have hV2 := HBQ.out.trans (hV.mono HBQ.out.size)
                obtain ⟨ra, rc, rb, ro, h1, h2⟩ := (HSO.out.below hV2).at_ q hqn
                rw [← hrL] at h1 h2
                exact ⟨ra, rc, rb, ro, h1, h2, (HSO.out.below hV2).lt⟩)
              have HRR := hid hrr; have HRL := hid hrL
              clear hrr hrL
              have HPL := hid hpL
              clear hpL
              go_loopw [13, 14, 15, 16, 120, 129] (fun v13 _ _ _ _ _ wr => ∃ i : Nat, v13 = .int .i64 i ∧ i ≤ pL.length ∧ Below wQ.heap.size wQ wr ∧ ∀ x ∈ pL.take i, (x.1, atL C x.2) ∈ plainD s.norm C (q : Int)) (fun v13 _ _ _ _ _ _ => pL.length - (intOf v13).toNat)
              case atStart => exact ⟨0, rfl, Nat.zero_le _, Below.refl _ _, by simp⟩
              case round =>
                obtain ⟨i, rfl, hi, hB, hall⟩ := hrel
                have HB := hid hB; have HALL := hid hall
                obtain ⟨ra, rc, rb, ro, c0, hrs, xl⟩ := HPR.out _ hB
                clear hB hall
                by_cases hil : i < pL.length
                · have hiI : (i : Int) < (pL.length : Int) := by omega
                  obtain ⟨x, hx⟩ := getElem?_of_lt hil
                  obtain rfl := hrs.ad (by omega)
                  have d0 := hrs.s0 hx; have d1 := hrs.s1 hx
                  have dl := hrs.lt (by omega)
                  obtain ⟨t1, t2⟩ := HRG.out pL p HPL.out x (List.mem_of_getElem? hx)
                  have HXI := hid hx
                  obtain ⟨x1, x2⟩ := x
                  simp only at d0 d1 t1 t2
                  obtain ⟨t, rfl⟩ := Int.eq_ofNat_of_zero_le t1
                  have htn : t < n := by omega
                  clear hrs hx t1 t2
                  have hbA := HB.out.alloc HB.out.size (.cells #[.int .i64 x1, .int .i64 (t : Int)] 131)
                  have hxA := heap_alloc_new wr (.cells #[.int .i64 x1, .int .i64 (t : Int)] 131)
                  obtain ⟨xk, hxk⟩ : ∃ xk, xk = wr.heap.size := ⟨_, rfl⟩
                  rw [← hxk] at hxA
                  have HXK := hid hxk
                  have HBA := hid hbA; have HXA := hid hxA
                  clear hxk hbA hxA
                  go_upto_block 6 with fail
                  rw [← HXK.out]
                  obtain ⟨wA, hwA⟩ : ∃ wA, wA = wr.alloc (.cells #[.int .i64 x1, .int .i64 (t : Int)] 131) := ⟨_, rfl⟩
                  rw [← hwA] at HBA HXA ⊢
                  have HCW : Hid (∀ V, Below wA.heap.size wA V → SlAt encI 1 V (some ⟨cb, co, none⟩) cb co C) := hid (fun V hV => HC.out.below (HB2.out.trans ((HBQ.out.trans ((HBA.out.trans (hV.mono HBA.out.size)).mono HBQ.out.size)).mono HB2.out.size)) (Nat.le_refl _))
                  have HXV : Hid (∀ V, Below wA.heap.size wA V → V.cell? ⟨xk, 0, none⟩ = some (.int .i64 x1) ∧ V.cell? ⟨xk, 1, none⟩ = some (.int .i64 (t : Int)) ∧ xk < V.heap.size) := hid (fun V hV => by
                    have h1 := (hV.block xk (Array.getElem?_eq_some_iff.1 HXA.out).1).trans HXA.out
                    exact ⟨by simp [World.cell?, h1], by simp [World.cell?, h1], (Array.getElem?_eq_some_iff.1 h1).1⟩)
                  clear hwA c0 d0 d1 dl xl
                  obtain ⟨qa, qc, qb, qo, _, hqs, _⟩ := HQR.out wA HBA.out
                  have HQS := hid hqs
                  obtain ⟨rl, hrlE⟩ : ∃ rl, rl = rL.length := ⟨_, rfl⟩
                  have KEEP : Hid (∀ V, Below wA.heap.size wA V → (V.cell? ⟨ob, q, none⟩ = some (.slice qa rl qc) ∧ ob < V.heap.size) ∧ (V.cell? ⟨xk, 0, none⟩ = some (.int .i64 x1) ∧ V.cell? ⟨xk, 1, none⟩ = some (.int .i64 (t : Int)) ∧ xk < V.heap.size) ∧ Below wA.heap.size wA V) := hid (fun V hV => by
                    have h0 := World.block_lt_of_cell? _ _ ‹wA.cell? _ = some (.slice qa rL.length qc)›
                    refine ⟨⟨by rw [hV.cell (p := ⟨ob, q, none⟩) h0, hrlE]; assumption, Nat.lt_of_lt_of_le h0 hV.size⟩, HXV.out V hV, hV⟩)
                  have INTO : Hid (∀ V, Below wA.heap.size wA V → Calls Tryz.prog 107 #[.slice qa rl qc, .agg #[.int .i64 x1, .int .i64 (t : Int)], .slice (some ⟨cb, co, none⟩) n cc] V fun e w' => e = .returned (.bool (intoB C rL (x1, (t : Int)))) ∧ Below V.heap.size V w') := hid (fun V hV => by
                    rw [hrlE]
                    exact into_any (HQS.out.below hV (Nat.le_refl _)) hrl HCL.out (HCW.out V hV) (by omega) HRR.out htn)
                  obtain ⟨iv, hiv⟩ : ∃ iv, iv = intoB C rL (x1, (t : Int)) := ⟨_, rfl⟩
                  rw [← hiv] at INTO
                  have HIP : Hid (iv = decide ((x1, atL C (t : Int)) ∈ plainD s.norm C (q : Int))) := hid (by rw [hiv, HRL.out]; exact into_plain)
                  clear hqs hiv HQS hrlE
                  go_cut [15, 16] from 70 to 137 (fun v15 _ wx => v15 = .bool iv ∧ Below wA.heap.size wA wx)
                  case first =>
                    go_wp2_with fail
                    refine wp_region_held_drew (S := (fun V => (V.cell? ⟨ob, q, none⟩ = some (.slice qa rl qc) ∧ ob < V.heap.size) ∧ (V.cell? ⟨xk, 0, none⟩ = some (.int .i64 x1) ∧ V.cell? ⟨xk, 1, none⟩ = some (.int .i64 (t : Int)) ∧ xk < V.heap.size) ∧ Below wA.heap.size wA V)) (by kernel_rfl) (by (try dsimp only); exact KEEP.out _ (Below.refl _ _).drew) (fun hHeld => ?_)
                    refine wpAnyH_take (i := 0) (v := ?_) rfl (by kernel_rfl) (by kernel_rfl) (by kernel_rfl) (fun _ _ _ h => h) (Or.inl ⟨by rfl, ?_⟩) (by assumption) ?_
                    rotate_left
                    · intro w hSw
                      try dsimp only at hSw
                      go_simp
                      try with_reducible rfl
                    try simp only [List.getElem_toArray, List.getElem_cons_zero, Act.put, List.setIfInBounds_toArray, List.set_cons_zero, List.set_cons_succ]
                    refine wpAnyH_take (i := 1) (v := ?_) rfl (by kernel_rfl) (by kernel_rfl) (by kernel_rfl) (fun _ _ _ h => h) (Or.inl ⟨by rfl, ?_⟩) (by assumption) ?_
                    rotate_left
                    · intro w hSw
                      try dsimp only at hSw
                      go_simp
                      try with_reducible rfl
                    try simp only [List.getElem_toArray, List.getElem_cons_zero, List.getElem_cons_succ, Act.put, List.setIfInBounds_toArray, List.set_cons_zero, List.set_cons_succ]
                    refine wpAnyH_take (i := 2) (v := ?_) rfl (by kernel_rfl) (by kernel_rfl) (by kernel_rfl) (fun _ _ _ h => h) (Or.inl ⟨by rfl, ?_⟩) (by assumption) ?_
                    rotate_left
                    · intro w hSw
                      try dsimp only at hSw
                      go_simp
                      try with_reducible rfl
                    try simp only [List.getElem_toArray, List.getElem_cons_zero, List.getElem_cons_succ, Act.put, List.setIfInBounds_toArray, List.set_cons_zero, List.set_cons_succ]
                    refine wpAnyH_take (i := 3) (v := ?_) rfl (by kernel_rfl) (by kernel_rfl) (by kernel_rfl) (fun _ _ _ h => h) (Or.inl ⟨by rfl, ?_⟩) (by assumption) ?_
                    rotate_left
                    · intro w hSw
                      try dsimp only at hSw
                      go_simp
                      try with_reducible rfl
                    try simp only [List.getElem_toArray, List.getElem_cons_zero, List.getElem_cons_succ, Act.put, List.setIfInBounds_toArray, List.set_cons_zero, List.set_cons_succ]
                    refine wpAnyH_take (i := 4) (v := ?_) rfl (by kernel_rfl) (by kernel_rfl) (by kernel_rfl) (fun _ _ _ h => h) (Or.inl ⟨by rfl, ?_⟩) (by assumption) ?_
                    rotate_left
                    · intro w hSw
                      try dsimp only at hSw
                      go_simp
                      try with_reducible rfl
                    try simp only [List.getElem_toArray, List.getElem_cons_zero, List.getElem_cons_succ, Act.put, List.setIfInBounds_toArray, List.set_cons_zero, List.set_cons_succ]
                    refine wpAnyH_take (i := 5) (v := ?_) rfl (by kernel_rfl) (by kernel_rfl) (by kernel_rfl) (fun _ _ _ h => h) (Or.inl ⟨by rfl, ?_⟩) (by assumption) ?_
                    rotate_left
                    · intro w hSw
                      try dsimp only at hSw
                      go_simp
                      try with_reducible rfl
                    try simp only [List.getElem_toArray, List.getElem_cons_zero, List.getElem_cons_succ, Act.put, List.setIfInBounds_toArray, List.set_cons_zero, List.set_cons_succ]
                    refine wpAnyH_ready (rs := [6]) (by kernel_rfl) (by simp) ?_
                    refine AllReadyH.cons rfl (fun K hK => ?_) AllReadyH.nil
                    go_simp
                    refine (INTO.out _ (Below.refl _ _).drew).mono ?_
                    rintro e w8 ⟨rfl, hB8⟩
                    have HB8 := hid ((Below.refl wA.heap.size wA).drew.trans hB8)
                    refine hK.out _ _ (by (try dsimp only); exact KEEP.out _ HB8.out) (fun hHeld => ?_)
                    clear hK K
                    try simp only [List.getElem_toArray, List.getElem_cons_zero, List.getElem_cons_succ, Act.put, List.setIfInBounds_toArray, List.set_cons_zero, List.set_cons_succ]
                    refine wpAnyH_take (i := 7) (v := ?_) rfl (by kernel_rfl) (by kernel_rfl) (by kernel_rfl) (fun _ _ _ h => h) (Or.inl ⟨by rfl, ?_⟩) (by assumption) ?_
                    rotate_left
                    · intro w hSw
                      try dsimp only at hSw
                      go_simp
                      try with_reducible rfl
                    try simp only [List.getElem_toArray, List.getElem_cons_zero, List.getElem_cons_succ, Act.put, List.setIfInBounds_toArray, List.set_cons_zero, List.set_cons_succ]
                    refine wpAnyH_done (by kernel_rfl) ?_ _
                    go_wp2_with fail
                    go_meet
                    exact ⟨rfl, HB8.out⟩
                  case rest =>
                    obtain ⟨rfl, hB8⟩ := hcut
                    have HB8 := hid (HBA.out.trans (hB8.mono HBA.out.size))
                    obtain ⟨a0, a1, al⟩ := HXV.out _ hB8
                    obtain ⟨w8, hw8⟩ : ∃ w8, w8 = wc := ⟨_, rfl⟩
                    rw [← hw8] at HB8 hB8 a0 a1 al ⊢
                    clear hw8
                    cases iv
                    · have hf : F p q = some (x1, (t : Int)) := by
                        rw [HFE.out]
                        unfold failD
                        simp only
                        rw [← HPL.out, ← List.take_append_drop i pL, List.find?_append, List.find?_eq_none.2 (fun x hx => by
                          have h := HALL.out x hx
                          simp [h])]
                        rw [List.drop_eq_getElem_cons hil, List.find?_cons_of_pos]
                        · have := (List.getElem?_eq_some_iff.1 HXI.out).2
                          rw [this]; rfl
                        · have := (List.getElem?_eq_some_iff.1 HXI.out).2
                          rw [this]
                          simp [← HIP.out]
                      have HFP := hid hf
                      have HB82 := hid (HBQ.out.trans (HB8.out.mono HBQ.out.size))
                      have hff := (HB82.out.block _ (Array.getElem?_eq_some_iff.1 HF.out).1).trans HF.out
                      have f0 : w8.cell? ⟨w.heap.size + 1, 0, none⟩ = some (.int .i64 0) := by simp [World.cell?, hff]
                      have f1 : w8.cell? ⟨w.heap.size + 1, 1, none⟩ = some (.int .i64 0) := by simp [World.cell?, hff]
                      have f2 : w8.cell? ⟨w.heap.size + 1, 2, none⟩ = some (.int .i64 0) := by simp [World.cell?, hff]
                      have f3 : w8.cell? ⟨w.heap.size + 1, 3, none⟩ = some (.int .i64 0) := by simp [World.cell?, hff]
                      have z0 : w8.frozen? ⟨w.heap.size + 1, 0, none⟩ = false := by simp [World.frozen?, hff]
                      have z1 : w8.frozen? ⟨w.heap.size + 1, 1, none⟩ = false := by simp [World.frozen?, hff]
                      have z2 : w8.frozen? ⟨w.heap.size + 1, 2, none⟩ = false := by simp [World.frozen?, hff]
                      have z3 : w8.frozen? ⟨w.heap.size + 1, 3, none⟩ = false := by simp [World.frozen?, hff]
                      have fl := (Array.getElem?_eq_some_iff.1 hff).1
                      have HBE := hid (HB2.out.trans (HB82.out.mono HB2.out.size))
                      clear hff hf hB8
                      go_wp2_with fail
                      refine bodyPost_ret (v := .tuple #[.agg #[.int .i64 p, .int .i64 q, .int .i64 x1, .int .i64 t], .bool false]) (by simp [results, Tryz.results32, go_sem, f0, f1, f2, f3]) rfl ⟨.inl ⟨p, q, (x1, (t : Int)), hpn, hqn, HCC.out, by have h := HFP.out; rw [HFE.out] at h; exact h, fun p' q' h1 h2 h3 h4 => ?_, rfl⟩, ?_⟩
                      · have h : F p' q' = none := by
                          rcases h3 with h3 | ⟨rfl, h3⟩
                          · exact HNO.out p' q' h1 h2 h3 h4
                          · exact HNQ.out q' h2 h3 h4
                        rw [HFE.out] at h
                        exact h
                      · exact (((HBE.out.setCell (p := ⟨w.heap.size + 1, 0, none⟩) (by simp) _).setCell (p := ⟨w.heap.size + 1, 1, none⟩) (by simp) _).setCell (p := ⟨w.heap.size + 1, 2, none⟩) (by simp) _).setCell (p := ⟨w.heap.size + 1, 3, none⟩) (by simp) _
                    · have HALL2 : Hid (∀ x ∈ pL.take (i + 1), (x.1, atL C x.2) ∈ plainD s.norm C (q : Int)) := hid (fun x hx => by
                        rw [take_snoc HXI.out] at hx
                        rcases List.mem_append.1 hx with hx | hx
                        · exact HALL.out x hx
                        · simp only [List.mem_singleton] at hx
                          subst hx
                          exact of_decide_eq_true HIP.out.symm)
                      clear hB8
                      go_wp2_with fail
                      go_roundw
                      case rel => exact ⟨i + 1, by go_num, by omega, HB8.out, HALL2.out⟩
                      case measure => simp [intOf]; omega
                · obtain rfl : i = pL.length := by omega
                  have hall := HALL.out
                  rw [List.take_length] at hall
                  have hnone : F p q = none := by
                    rw [HFE.out]
                    unfold failD
                    simp only
                    rw [← HPL.out, List.find?_eq_none]
                    intro x hx
                    have h := hall x hx
                    simp [h]
                  have HNN := hid hnone
                  clear hall hnone hrs
                  go_wp2_with fail
                  go_roundw
                  case rel => exact ⟨q + 1, by go_num, by omega, HBQ.out.trans (HB.out.mono HBQ.out.size), fun q' h1 h2 h3 => by
                    rcases Nat.lt_or_ge q' q with h | h
                    · exact HNQ.out q' h1 h h3
                    · obtain rfl : q' = q := by omega
                      exact HNN.out⟩
                  case measure => simp [intOf]; omega
            · have HCC := hid hcc
              obtain ⟨cp, hcp⟩ : ∃ cp, cp = atL C (p : Int) := ⟨_, rfl⟩
              obtain ⟨cq, hcq⟩ : ∃ cq, cq = atL C (q : Int) := ⟨_, rfl⟩
              rw [← hcp] at c0
              rw [← hcq] at d0
              rw [← hcp, ← hcq] at hcc
              have hc2 : (cp != cq) = true := by simp [hcc]
              clear hcw hcp hcq
              go_wp2_with fail
              go_quiet (fail)
              go_wp2_with fail
              go_roundw
              case rel => exact ⟨q + 1, by go_num, by omega, bdrew HB.out, fun q' h1 h2 h3 => by
                rcases Nat.lt_or_ge q' q with h | h
                · exact HNQ.out q' h1 h h3
                · obtain rfl : q' = q := by omega
                  exact absurd h3 HCC.out⟩
              case measure => simp [intOf]; omega
        · obtain rfl : n = q := by omega
          have HNP : Hid (∀ p' q', p' < n → q' < n → p' < p + 1 → atL C (p' : Int) = atL C (q' : Int) → F p' q' = none) := hid (fun p' q' h1 h2 h3 h4 => by
            rcases Nat.lt_or_ge p' p with h | h
            · exact HNO.out p' q' h1 h2 h h4
            · obtain rfl : p' = p := by omega
              exact HNQ.out q' h2 h2 h4)
          clear hcw
          go_wp2_with fail
          go_roundw
          case rel => exact ⟨p + 1, by go_num, by omega, HB.out, HNP.out⟩
          case measure => simp [intOf]; omega
    · obtain rfl : n = p := by omega
      have hff := (HB.out.block _ (Array.getElem?_eq_some_iff.1 HF.out).1).trans HF.out
      have f0 : wr.cell? ⟨w.heap.size + 1, 0, none⟩ = some (.int .i64 0) := by simp [World.cell?, hff]
      have f1 : wr.cell? ⟨w.heap.size + 1, 1, none⟩ = some (.int .i64 0) := by simp [World.cell?, hff]
      have f2 : wr.cell? ⟨w.heap.size + 1, 2, none⟩ = some (.int .i64 0) := by simp [World.cell?, hff]
      have f3 : wr.cell? ⟨w.heap.size + 1, 3, none⟩ = some (.int .i64 0) := by simp [World.cell?, hff]
      have z0 : wr.frozen? ⟨w.heap.size + 1, 0, none⟩ = false := by simp [World.frozen?, hff]
      have z1 : wr.frozen? ⟨w.heap.size + 1, 1, none⟩ = false := by simp [World.frozen?, hff]
      have z2 : wr.frozen? ⟨w.heap.size + 1, 2, none⟩ = false := by simp [World.frozen?, hff]
      have z3 : wr.frozen? ⟨w.heap.size + 1, 3, none⟩ = false := by simp [World.frozen?, hff]
      have fl := (Array.getElem?_eq_some_iff.1 hff).1
      have HBE := hid (HB2.out.trans (HB.out.mono HB2.out.size))
      clear hff HB
      go_wp2_with fail
      refine bodyPost_ret (v := .tuple #[.agg #[.int .i64 0, .int .i64 0, .int .i64 0, .int .i64 0], .bool true]) (by simp [results, Tryz.results32, go_sem, f0, f1, f2, f3]) rfl ⟨.inr ⟨fun p q h1 h2 h3 => by have h := HNO.out p q h1 h2 h1 h3; rw [HFE.out] at h; exact h, rfl⟩, ?_⟩
      exact (((HBE.out.setCell (p := ⟨w.heap.size + 1, 0, none⟩) (by simp) _).setCell (p := ⟨w.heap.size + 1, 1, none⟩) (by simp) _).setCell (p := ⟨w.heap.size + 1, 2, none⟩) (by simp) _).setCell (p := ⟨w.heap.size + 1, 3, none⟩) (by simp) _
set_option maxRecDepth 100000 in
set_option maxHeartbeats 16000000 in
theorem look2_any {s : Lts} {n lb : Nat} (hr : s.Right) (hn : s.st = (n : Int)) (hn3 : n ≤ 300) (hlb : s.lb = (lb : Int)) {a : Option Addr} {b off c : Nat} {w : World} (hS : SlAt encE 3 w a b off s.es) (hc : s.es.length ≤ c) (hcm : c ≤ maxLen)
    {C : List Int} (hCl : C.length = n) {f : Nat → Int} (hCf : C = fl n f) {ca : Option Addr} {cb co cc : Nat} (hC : SlAt encI 1 w ca cb co C) :
    Calls Tryz.prog 32 #[.agg #[.int .i64 s.st, .int .i64 s.lb, .int .i64 s.s0, .slice a s.es.length c], .slice ca n cc, .int .i64 2] w fun e w' => LookE s.norm n C (lateD s.norm C) e ∧ Below w.heap.size w w' := by
  obtain ⟨W, hW⟩ : ∃ W, W = (w.alloc (.cells #[.int .i64 s.st, .int .i64 s.lb, .int .i64 s.s0, .slice a s.es.length c] 24)).alloc (.cells #[.int .i64 0, .int .i64 0, .int .i64 0, .int .i64 0] 71) := ⟨_, rfl⟩
  have hB0 : Below w.heap.size w W := by rw [hW]; exact ((Below.refl _ _).alloc (Nat.le_refl _) _).alloc (by simp) _
  have h1 : W.heap[w.heap.size]? = some (.cells #[.int .i64 s.st, .int .i64 s.lb, .int .i64 s.s0, .slice a s.es.length c] 24 (0, 0)) := by
    rw [hW, Below.heap_alloc _ _ _ (by simp)]; exact heap_alloc_new w _
  have h2 : W.heap[w.heap.size + 1]? = some (.cells #[.int .i64 0, .int .i64 0, .int .i64 0, .int .i64 0] 71 (0, 0)) := by
    have h := heap_alloc_new (w.alloc (.cells #[.int .i64 s.st, .int .i64 s.lb, .int .i64 s.s0, .slice a s.es.length c] 24)) (.cells #[.int .i64 0, .int .i64 0, .int .i64 0, .int .i64 0] 71)
    rw [show (w.alloc (.cells #[.int .i64 s.st, .int .i64 s.lb, .int .i64 s.s0, .slice a s.es.length c] 24)).heap.size = w.heap.size + 1 by simp] at h
    rw [hW]; exact h
  have hou : Calls Tryz.prog 44 #[.agg #[.int .i64 s.st, .int .i64 s.lb, .int .i64 s.s0, .slice a s.es.length c]] W fun e w' => ∃ ob, e = .returned (.slice (some ⟨ob, 0, none⟩) n n) ∧ StepsIn w' ob n (fun p => s.norm.outs (p : Int)) ∧ Below W.heap.size W w' := by
    refine (refOut_any hr (hS.below hB0 (Nat.le_refl _)) hc hcm).mono ?_
    rintro e w' ⟨ob, n', base, hn', rfl, hrows, _, hB⟩
    obtain rfl : n = n' := by omega
    exact ⟨ob, rfl, StepsIn.of hrows, hB⟩
  obtain ⟨el, hel⟩ : ∃ el, el = s.es.length := ⟨_, rfl⟩
  rw [hn, ← hel] at hou hW h1
  rw [hn, ← hel]
  have HR := hid hr; have HN := hid hn; have HLB := hid hlb; have HW := hid hW; have HB0 := hid hB0; have H1 := hid h1; have H2 := hid h2; have HOU := hid hou; have HC := hid hC; have HCL := hid hCl; have HCF := hid hCf
  clear hr hn hlb hS hc hcm hCl hCf hC hW hB0 h1 h2 hou hel
  go_enter Tryz.func32, Tryz.ntmps32
  go_wp2_with fail
  rw [← HW.out]
  obtain ⟨x0, x1, x2, x3, x4⟩ := sysC H1.out
  go_wp2_with fail
  refine HOU.out.mono ?_
  rintro e w2 ⟨ob, rfl, hso, hB2⟩
  have HX := hid ((hB2.block _ (Array.getElem?_eq_some_iff.1 H1.out).1).trans H1.out)
  have HF := hid ((hB2.block _ (Array.getElem?_eq_some_iff.1 H2.out).1).trans H2.out)
  have HB2 := hid (HB0.out.trans (hB2.mono HB0.out.size)); have HSO := hid hso
  clear x0 x1 x2 x3 x4 hB2 hso HOU HB0 H1 H2 HW
  obtain ⟨x0, x1, x2, x3, x4⟩ := sysC HX.out
  go_wp2_with fail
  clear x0 x1 x2 x3 x4
  have HCX : Hid (∀ i, i < n → C[i]? = some (atL C (i : Int))) := hid (fun i hi => by
    unfold atL
    rw [Int.toNat_natCast, List.getD_eq_getElem?_getD]
    have := List.getElem?_eq_getElem (l := C) (i := i) (by have := HCL.out; omega)
    rw [this]; rfl)
  obtain ⟨F, hF⟩ : ∃ F : Nat → Nat → Option S, F = fun p q => failD s.norm C (lateD s.norm C) p q := ⟨_, rfl⟩
  have HFE := hid hF
  clear hF
  go_loopw [10, 11, 12, 13, 14, 15, 16, 120, 129] (fun v10 _ _ _ _ _ _ _ _ wr => ∃ p : Nat, v10 = .int .i64 p ∧ p ≤ n ∧ Below w2.heap.size w2 wr ∧ ∀ p' q', p' < n → q' < n → p' < p → atL C (p' : Int) = atL C (q' : Int) → F p' q' = none) (fun v10 _ _ _ _ _ _ _ _ _ => n - (intOf v10).toNat)
  case atStart => exact ⟨0, rfl, Nat.zero_le _, Below.refl _ _, fun _ _ _ _ h => by omega⟩
  case round =>
    obtain ⟨p, rfl, hp, hB, hno⟩ := hrel
    have HB := hid hB; have HNO := hid hno
    have hxr := (hB.block w.heap.size (Array.getElem?_eq_some_iff.1 HX.out).1).trans HX.out
    obtain ⟨x0, x1, x2, x3, x4⟩ := sysC hxr
    clear hB hno hxr
    by_cases hpn : p < n
    · have hpI : (p : Int) < (n : Int) := by omega
      go_wp2_with fail
      clear x0 x1 x2 x3 x4
      go_loopw [11, 12, 13, 14, 15, 16, 120, 129] (fun v11 _ _ _ _ _ _ _ wr => ∃ q : Nat, v11 = .int .i64 q ∧ q ≤ n ∧ Below w2.heap.size w2 wr ∧ ∀ q', q' < n → q' < q → atL C (p : Int) = atL C (q' : Int) → F p q' = none) (fun v11 _ _ _ _ _ _ _ _ => n - (intOf v11).toNat)
      case atStart => exact ⟨0, rfl, Nat.zero_le _, HB.out, fun _ _ h => by omega⟩
      case round =>
        obtain ⟨q, rfl, hq, hB, hno⟩ := hrel
        have HB := hid hB; have HNQ := hid hno
        have hxr := (hB.block w.heap.size (Array.getElem?_eq_some_iff.1 HX.out).1).trans HX.out
        obtain ⟨x0, x1, x2, x3, x4⟩ := sysC hxr
        have hcw := HC.out.below (HB2.out.trans (hB.mono HB2.out.size)) (Nat.le_refl _)
        clear hB hno hxr
        by_cases hqn : q < n
        · have hqI : (q : Int) < (n : Int) := by omega
          obtain rfl := hcw.ad (by rw [HCL.out]; omega)
          have c0 := hcw.ci (HCX.out p hpn)
          have cl := World.block_lt_of_cell? _ _ c0
          by_cases hpq : p = q
          · subst hpq
            obtain ⟨cp, hcp⟩ : ∃ cp, cp = atL C (p : Int) := ⟨_, rfl⟩
            rw [← hcp] at c0
            have hcc : (cp != cp) = false := by simp
            have hself : F p p = none := by
              rw [HFE.out]
              unfold failD
              simp only
              rw [List.find?_eq_none]
              intro x hx
              obtain ⟨t, ht, htn⟩ : ∃ t : Nat, x.2 = (t : Int) ∧ t < n := by
                have h := offB_false.1 (HR.out.norm.edges _ (mem_outs.1 hx))
                have hn := HN.out
                have e : s.norm.st = s.st := rfl
                simp only at h
                exact ⟨x.2.toNat, by omega, by omega⟩
              have hs : stp s p x.1 t := by
                have h := mem_outs.1 hx
                rw [ht] at h
                exact (mem_nf stoE _ _).1 h
              have : (x.1, atL C x.2) ∈ lateD s.norm C p := by
                rw [HCF.out, mem_lateD HR.out HN.out hpn, ht, atL_flW htn]
                exact .inr ⟨p, t, .refl, rfl, hs, rfl⟩
              simp [this]
            have HSELF := hid hself
            clear hcw hself hcp
            go_wp2_with fail
            go_quiet (fail)
            go_wp2_with fail
            go_roundw
            case rel => exact ⟨p + 1, by go_num, by omega, bdrew HB.out, fun q' h1 h2 h3 => by
              rcases Nat.lt_or_ge q' p with h | h
              · exact HNQ.out q' h1 h h3
              · obtain rfl : q' = p := by omega
                exact HSELF.out⟩
            case measure => simp [intOf]; omega
          · have hpqI : ¬ (p : Int) = (q : Int) := by omega
            have hpqb : ((p : Int) == (q : Int)) = false := by simp [hpqI]
            have d0 := hcw.ci (HCX.out q hqn)
            by_cases hcc : atL C (p : Int) = atL C (q : Int)
            · rw [hcc] at c0
              have HCC := hid hcc
              obtain ⟨cq, hcq⟩ : ∃ cq, cq = atL C (q : Int) := ⟨_, rfl⟩
              rw [← hcq] at c0 d0
              have hc2 : (cq != cq) = false := by simp
              have HCQ := hid hcq
              clear hcw hcq
              go_wp2_with fail
              go_quiet (fail)
              clear hpqI hpq
              obtain ⟨wN, hwN⟩ : ∃ wN, wN = wr.drewN nq := ⟨_, rfl⟩
              have HBN : Hid (Below w2.heap.size w2 wN) := hid (by rw [hwN]; exact bdrew HB.out)
              rw [← hwN]
              have hfr := refFrom_any (s := s.norm) (c := n) HR.out.norm (srt_nf stoE _) (n := n) (q := q) HN.out hqn (HSO.out.below HBN.out)
              have HFR := hid hfr
              clear hwN c0 d0 cl HB x0 x1 x2 x3 x4 hfr
              go_wp2_with fail
              refine HFR.out.mono ?_
              rintro e wQ ⟨sb, rfl, hsr, _, hBQ⟩
              have hsr2 : wQ.rowIs sb 4 n (fun j => .bool (silG s q j)) := hsr
              have HSR := hid hsr2
              have HBQ := hid (HBN.out.trans (hBQ.mono HBN.out.size))
              clear hsr hsr2 hBQ HFR HBN
              go_wp2_with fail
              obtain ⟨pL, hpL⟩ : ∃ pL, pL = s.norm.outs (p : Int) := ⟨_, rfl⟩
              have hpl : pL.length ≤ 10000 := by rw [hpL]; exact outs_len HR.out.norm _
              have HPR : Hid (∀ V, Below wQ.heap.size wQ V → ∃ ra rc rb ro, V.cell? ⟨ob, p, none⟩ = some (.slice ra pL.length rc) ∧ SlAt encS 2 V ra rb ro pL ∧ ob < V.heap.size) := hid (fun V hV => by
                have hV2 := HBQ.out.trans (hV.mono HBQ.out.size)
                obtain ⟨ra, rc, rb, ro, h1, h2⟩ := (HSO.out.below hV2).at_ p hpn
                rw [← hpL] at h1 h2
                exact ⟨ra, rc, rb, ro, h1, h2, (HSO.out.below hV2).lt⟩)
              have HRG : Hid (∀ (L : List S) (k : Nat), L = s.norm.outs (k : Int) → ∀ x ∈ L, 0 ≤ x.2 ∧ x.2 < (n : Int)) := hid (fun L k hL x hx => by
                rw [hL] at hx
                have h := offB_false.1 (HR.out.norm.edges _ (mem_outs.1 hx))
                have hn := HN.out
                have e : s.norm.st = s.st := rfl
                simp only at h
                omega)
              have HPL := hid hpL
              clear hpL
              go_loopw [13, 14, 15, 16, 120, 129] (fun v13 _ _ _ _ _ wr => ∃ i : Nat, v13 = .int .i64 i ∧ i ≤ pL.length ∧ Below wQ.heap.size wQ wr ∧ ∀ x ∈ pL.take i, (x.1, atL C x.2) ∈ lateD s.norm C q) (fun v13 _ _ _ _ _ _ => pL.length - (intOf v13).toNat)
              case atStart => exact ⟨0, rfl, Nat.zero_le _, Below.refl _ _, by simp⟩
              case round =>
                obtain ⟨i, rfl, hi, hB, hall⟩ := hrel
                have HB := hid hB; have HALL := hid hall
                obtain ⟨ra, rc, rb, ro, c0, hrs, xl⟩ := HPR.out _ hB
                clear hB hall
                by_cases hil : i < pL.length
                · have hiI : (i : Int) < (pL.length : Int) := by omega
                  obtain ⟨x, hx⟩ := getElem?_of_lt hil
                  obtain rfl := hrs.ad (by omega)
                  have d0 := hrs.s0 hx; have d1 := hrs.s1 hx
                  have dl := hrs.lt (by omega)
                  obtain ⟨t1, t2⟩ := HRG.out pL p HPL.out x (List.mem_of_getElem? hx)
                  have HXI := hid hx
                  obtain ⟨x1, x2⟩ := x
                  simp only at d0 d1 t1 t2
                  obtain ⟨t, rfl⟩ := Int.eq_ofNat_of_zero_le t1
                  have htn : t < n := by omega
                  clear hrs hx t1 t2
                  have hbA := HB.out.alloc HB.out.size (.cells #[.int .i64 x1, .int .i64 (t : Int)] 131)
                  have hxA := heap_alloc_new wr (.cells #[.int .i64 x1, .int .i64 (t : Int)] 131)
                  obtain ⟨xk, hxk⟩ : ∃ xk, xk = wr.heap.size := ⟨_, rfl⟩
                  rw [← hxk] at hxA
                  have HXK := hid hxk
                  have HBA := hid hbA; have HXA := hid hxA
                  clear hxk hbA hxA
                  go_upto_block 6 with fail
                  rw [← HXK.out]
                  obtain ⟨wA, hwA⟩ : ∃ wA, wA = wr.alloc (.cells #[.int .i64 x1, .int .i64 (t : Int)] 131) := ⟨_, rfl⟩
                  rw [← hwA] at HBA HXA ⊢
                  have HCW : Hid (∀ V, Below wA.heap.size wA V → SlAt encI 1 V (some ⟨cb, co, none⟩) cb co C) := hid (fun V hV => HC.out.below (HB2.out.trans ((HBQ.out.trans ((HBA.out.trans (hV.mono HBA.out.size)).mono HBQ.out.size)).mono HB2.out.size)) (Nat.le_refl _))
                  have HXV : Hid (∀ V, Below wA.heap.size wA V → V.cell? ⟨xk, 0, none⟩ = some (.int .i64 x1) ∧ V.cell? ⟨xk, 1, none⟩ = some (.int .i64 (t : Int)) ∧ xk < V.heap.size) := hid (fun V hV => by
                    have h1 := (hV.block xk (Array.getElem?_eq_some_iff.1 HXA.out).1).trans HXA.out
                    exact ⟨by simp [World.cell?, h1], by simp [World.cell?, h1], (Array.getElem?_eq_some_iff.1 h1).1⟩)
                  clear hwA c0 d0 d1 dl xl
                  obtain ⟨iv, hiv⟩ : ∃ iv, iv = lateB s n C p q (x1, (t : Int)) := ⟨_, rfl⟩
                  have HIP : Hid (iv = decide ((x1, atL C (t : Int)) ∈ lateD s.norm C q)) := hid (by
                    rw [hiv]
                    have e : f p = f q := by
                      have h := HCC.out
                      rw [HCF.out, atL_flW hpn, atL_flW hqn] at h
                      exact h
                    have h := late_iff (f := f) (x := (x1, (t : Int))) HR.out HN.out hpn hqn e
                    rw [← HCF.out] at h
                    exact h)
                  have HIV := hid hiv
                  clear hiv
                  have HSL : Hid (∀ V, Below wA.heap.size wA V → V.rowIs sb 4 n (fun j => .bool (silG s q j))) := hid (fun V hV => HSR.out.of_block ((HBA.out.trans (hV.mono HBA.out.size)).block _ HSR.out.lt))
                  have HQR : Hid (∀ V (r : Nat), r < n → Below wA.heap.size wA V → ∃ ra rc rb ro, V.cell? ⟨ob, r, none⟩ = some (.slice ra (s.norm.outs (r : Int)).length rc) ∧ SlAt encS 2 V ra rb ro (s.norm.outs (r : Int)) ∧ ob < V.heap.size) := hid (fun V r hr hV => by
                    have hV2 := HBQ.out.trans ((HBA.out.trans (hV.mono HBA.out.size)).mono HBQ.out.size)
                    obtain ⟨ra, rc, rb, ro, h1, h2⟩ := (HSO.out.below hV2).at_ r hr
                    exact ⟨ra, rc, rb, ro, h1, h2, (HSO.out.below hV2).lt⟩)
                  go_cut [15, 16] from 70 to 137 (fun v15 _ wx => v15 = .bool iv ∧ Below wA.heap.size wA wx)
                  case first =>
                    obtain ⟨ct, hct⟩ : ∃ ct, ct = atL C (t : Int) := ⟨_, rfl⟩
                    obtain ⟨cp, hcp⟩ : ∃ cp, cp = atL C (p : Int) := ⟨_, rfl⟩
                    have hcq3 : atL C (q : Int) = cp := by rw [hcp]; exact HCC.out.symm
                    obtain ⟨g0, g1, gl⟩ := HXV.out wA (Below.refl _ _)
                    have hcw := HCW.out wA (Below.refl _ _)
                    have r0 := hcw.ci (HCX.out t htn); have r1 := hcw.ci (HCX.out q hqn)
                    have cl := World.block_lt_of_cell? _ _ r0
                    rw [← hct] at r0
                    rw [hcq3] at r1
                    have HCT := hid hct; have HCP := hid hcp
                    clear hcw hct hcp hcq3
                    go_upto_region 21 with fail
                    go_cut [15] from 71 to 85 (fun v15 wx => v15 = .bool (decide (x1 = 0) && (ct == cp)) ∧ ∃ nq, wx = wA.drewN nq)
                    case first =>
                      by_cases hy0 : x1 = 0
                      · subst hy0
                        go_wp2_with fail
                        go_quiet (fail)
                        go_wp2_with fail
                        go_meet
                        exact ⟨by simp, _, rfl⟩
                      · have hb : (x1 == 0) = false := by simp [hy0]
                        go_wp2_with fail
                        go_quiet (fail)
                        go_wp2_with fail
                        go_meet
                        exact ⟨by simp [hy0], _, rfl⟩
                    case rest =>
                      obtain ⟨rfl, nq, rfl⟩ := hcut
                      obtain ⟨m0, hm0⟩ : ∃ m0, m0 = (decide (x1 = 0) && (ct == cp)) := ⟨_, rfl⟩
                      rw [← hm0]
                      obtain ⟨G, hG⟩ : ∃ G : Nat → Bool, G = fun r => silG s q r && decide (atL C (r : Int) = cp) && intoB C (s.norm.outs (r : Int)) (x1, (t : Int)) := ⟨_, rfl⟩
                      have HIG : Hid (iv = (m0 || (List.range n).any G)) := hid (by
                        rw [HIV.out, hm0, hG, HCP.out, HCT.out]
                        unfold lateB
                        rw [← HCC.out]
                        simp only
                        congr 2)
                      have HG := hid hG
                      have HBD : Hid (Below wA.heap.size wA (wA.drewN nq)) := hid (bdrew (Below.refl _ _))
                      obtain ⟨wD, hwD⟩ : ∃ wD, wD = wA.drewN nq := ⟨_, rfl⟩
                      rw [← hwD] at HBD ⊢
                      clear hm0 hG hwD g0 g1 gl r0 r1 cl
                      go_wp2_with fail
                      go_loopw [15, 16] (fun v15 v16 wx => ∃ r : Nat, v16 = .int .i64 r ∧ r ≤ n ∧ v15 = .bool (m0 || (List.range r).any G) ∧ Below wA.heap.size wA wx) (fun _ v16 _ => n - (intOf v16).toNat)
                      case atStart => exact ⟨0, rfl, Nat.zero_le _, by simp, HBD.out⟩
                      case round =>
                        obtain ⟨r, rfl, hr, rfl, hBr⟩ := hrel
                        have HBR := hid hBr
                        have hxr := ((HBQ.out.trans ((HBA.out.trans (hBr.mono HBA.out.size)).mono HBQ.out.size)).block w.heap.size (Array.getElem?_eq_some_iff.1 HX.out).1).trans HX.out
                        obtain ⟨x0, _, _, _, x4⟩ := sysC hxr
                        have HSN : Hid ((m0 || (List.range (r + 1)).any G) = ((m0 || (List.range r).any G) || G r)) := hid (by rw [any_range_succ, Bool.or_assoc])
                        have HLE : Hid ((m0 || (List.range r).any G) = true → iv = true) := hid (fun h => by rw [HIG.out]; exact any_le h hr)
                        have HEN : Hid (r = n → iv = (m0 || (List.range r).any G)) := hid (fun h => by rw [HIG.out, h])
                        obtain ⟨bm, hbm⟩ : ∃ bm, bm = (m0 || (List.range r).any G) := ⟨_, rfl⟩
                        rw [← hbm] at HSN HLE HEN ⊢
                        clear hbm hxr hBr
                        by_cases hrn : r < n
                        · have hrI : (r : Int) < (n : Int) := by omega
                          cases bm
                          · obtain ⟨qa, qc, qb, qo, o0, hqs, ol⟩ := HQR.out wr r hrn HBR.out
                            have hs0 := (HSL.out wr HBR.out).cell hrn
                            have hsl := (HSL.out wr HBR.out).lt
                            have hcw := HCW.out wr HBR.out
                            have r0 := hcw.ci (HCX.out r hrn); have r1 := hcw.ci (HCX.out p hpn)
                            have cl := World.block_lt_of_cell? _ _ r0
                            rw [← HCP.out] at r1
                            have HGR : Hid (G r = (silG s q r && decide (atL C (r : Int) = cp) && intoB C (s.norm.outs (r : Int)) (x1, (t : Int)))) := hid (by rw [HG.out])
                            obtain ⟨sv, hsv⟩ : ∃ sv, sv = silG s q r := ⟨_, rfl⟩
                            obtain ⟨cr, hcr⟩ : ∃ cr, cr = atL C (r : Int) := ⟨_, rfl⟩
                            rw [← hsv] at hs0 HGR
                            rw [← hcr] at r0 HGR
                            clear hcw hsv hcr
                            cases sv
                            · clear hqs
                              go_wp2_with fail
                              go_quiet (fail)
                              go_wp2_with fail
                              go_roundw
                              case rel => exact ⟨r + 1, by go_num, by omega, by rw [HSN.out, HGR.out]; rfl, bdrew HBR.out⟩
                              case measure => simp [intOf]; omega
                            · by_cases h1 : cr = cp
                              · subst h1
                                have HQS := hid hqs
                                obtain ⟨rl, hrlE⟩ : ∃ rl, rl = (s.norm.outs (r : Int)).length := ⟨_, rfl⟩
                                rw [← hrlE] at o0
                                have INTO : Hid (∀ V, Below wr.heap.size wr V → Calls Tryz.prog 107 #[.slice qa rl qc, .agg #[.int .i64 x1, .int .i64 (t : Int)], .slice (some ⟨cb, co, none⟩) n cc] V fun e w' => e = .returned (.bool (intoB C (s.norm.outs (r : Int)) (x1, (t : Int)))) ∧ Below V.heap.size V w') := hid (fun V hV => by
                                  rw [hrlE]
                                  exact into_any (HQS.out.below hV (Nat.le_refl _)) (by have := outs_len HR.out.norm (r : Int); omega) HCL.out (HCW.out V (HBR.out.trans (hV.mono HBR.out.size))) (by omega) (HRG.out _ r rfl) htn)
                                have KP : Hid (∀ V, Below wr.heap.size wr V → (V.cell? ⟨sb, r, none⟩ = some (.bool true) ∧ sb < V.heap.size) ∧ (V.cell? ⟨ob, r, none⟩ = some (.slice qa rl qc) ∧ ob < V.heap.size) ∧ (V.cell? ⟨xk, 0, none⟩ = some (.int .i64 x1) ∧ V.cell? ⟨xk, 1, none⟩ = some (.int .i64 (t : Int)) ∧ xk < V.heap.size) ∧ (V.cell? ⟨cb, co + r, none⟩ = some (.int .i64 cr) ∧ V.cell? ⟨cb, co + p, none⟩ = some (.int .i64 cr) ∧ cb < V.heap.size) ∧ Below wr.heap.size wr V) := hid (fun V hV =>
                                  ⟨⟨by rw [hV.cell (p := ⟨sb, r, none⟩) hsl]; exact hs0, Nat.lt_of_lt_of_le hsl hV.size⟩, ⟨by rw [hV.cell (p := ⟨ob, r, none⟩) ol]; exact o0, Nat.lt_of_lt_of_le ol hV.size⟩, HXV.out V (HBR.out.trans (hV.mono HBR.out.size)),
                                   ⟨by rw [hV.cell (p := ⟨cb, co + r, none⟩) cl]; exact r0, by rw [hV.cell (p := ⟨cb, co + p, none⟩) cl]; exact r1, Nat.lt_of_lt_of_le cl hV.size⟩, hV⟩)
                                obtain ⟨cp, hcp⟩ : ∃ cp, cp = cr := ⟨_, rfl⟩
                                rw [← hcp] at KP
                                obtain ⟨iw, hiw⟩ : ∃ iw, iw = intoB C (s.norm.outs (r : Int)) (x1, (t : Int)) := ⟨_, rfl⟩
                                rw [← hiw] at INTO HGR
                                clear hqs hrlE HQS hs0 hsl o0 ol r0 r1 cl hcp hiw
                                go_wp2_with fail
                                refine wp_region_held_drew (S := (fun V => (V.cell? ⟨sb, r, none⟩ = some (.bool true) ∧ sb < V.heap.size) ∧ (V.cell? ⟨ob, r, none⟩ = some (.slice qa rl qc) ∧ ob < V.heap.size) ∧ (V.cell? ⟨xk, 0, none⟩ = some (.int .i64 x1) ∧ V.cell? ⟨xk, 1, none⟩ = some (.int .i64 (t : Int)) ∧ xk < V.heap.size) ∧ (V.cell? ⟨cb, co + r, none⟩ = some (.int .i64 cp) ∧ V.cell? ⟨cb, co + p, none⟩ = some (.int .i64 cp) ∧ cb < V.heap.size) ∧ Below wr.heap.size wr V)) (by kernel_rfl) (by (try dsimp only); exact KP.out _ (Below.refl _ _).drew) (fun hHeld => ?_)
                                refine wpAnyH_take (i := 0) (v := ?_) rfl (by kernel_rfl) (by kernel_rfl) (by kernel_rfl) (fun _ _ _ h => h) (Or.inl ⟨by rfl, ?_⟩) (by assumption) ?_
                                rotate_left
                                · intro w hSw
                                  try dsimp only at hSw
                                  go_simp
                                  try with_reducible rfl
                                try simp only [List.getElem_toArray, List.getElem_cons_zero, Act.put, List.setIfInBounds_toArray, List.set_cons_zero, List.set_cons_succ]
                                refine wpAnyH_take (i := 1) (v := ?_) rfl (by kernel_rfl) (by kernel_rfl) (by kernel_rfl) (fun _ _ _ h => h) (Or.inl ⟨by rfl, ?_⟩) (by assumption) ?_
                                rotate_left
                                · intro w hSw
                                  try dsimp only at hSw
                                  go_simp
                                  try with_reducible rfl
                                try simp only [List.getElem_toArray, List.getElem_cons_zero, List.getElem_cons_succ, Act.put, List.setIfInBounds_toArray, List.set_cons_zero, List.set_cons_succ]
                                refine wpAnyH_take (i := 2) (v := ?_) rfl (by kernel_rfl) (by kernel_rfl) (by kernel_rfl) (fun _ _ _ h => h) (Or.inl ⟨by rfl, ?_⟩) (by assumption) ?_
                                rotate_left
                                · intro w hSw
                                  try dsimp only at hSw
                                  go_simp
                                  try with_reducible rfl
                                try simp only [List.getElem_toArray, List.getElem_cons_zero, List.getElem_cons_succ, Act.put, List.setIfInBounds_toArray, List.set_cons_zero, List.set_cons_succ]
                                refine wpAnyH_take (i := 3) (v := ?_) rfl (by kernel_rfl) (by kernel_rfl) (by kernel_rfl) (fun _ _ _ h => h) (Or.inl ⟨by rfl, ?_⟩) (by assumption) ?_
                                rotate_left
                                · intro w hSw
                                  try dsimp only at hSw
                                  go_simp
                                  try with_reducible rfl
                                try simp only [List.getElem_toArray, List.getElem_cons_zero, List.getElem_cons_succ, Act.put, List.setIfInBounds_toArray, List.set_cons_zero, List.set_cons_succ]
                                refine wpAnyH_take (i := 4) (v := ?_) rfl (by kernel_rfl) (by kernel_rfl) (by kernel_rfl) (fun _ _ _ h => h) (Or.inl ⟨by rfl, ?_⟩) (by assumption) ?_
                                rotate_left
                                · intro w hSw
                                  try dsimp only at hSw
                                  go_simp
                                  try with_reducible rfl
                                try simp only [List.getElem_toArray, List.getElem_cons_zero, List.getElem_cons_succ, Act.put, List.setIfInBounds_toArray, List.set_cons_zero, List.set_cons_succ]
                                refine wpAnyH_take (i := 5) (v := ?_) rfl (by kernel_rfl) (by kernel_rfl) (by kernel_rfl) (fun _ _ _ h => h) (Or.inl ⟨by rfl, ?_⟩) (by assumption) ?_
                                rotate_left
                                · intro w hSw
                                  try dsimp only at hSw
                                  go_simp
                                  try with_reducible rfl
                                try simp only [List.getElem_toArray, List.getElem_cons_zero, List.getElem_cons_succ, Act.put, List.setIfInBounds_toArray, List.set_cons_zero, List.set_cons_succ]
                                refine wpAnyH_take (i := 6) (v := ?_) rfl (by kernel_rfl) (by kernel_rfl) (by kernel_rfl) (fun _ _ _ h => h) (Or.inl ⟨by rfl, ?_⟩) (by assumption) ?_
                                rotate_left
                                · intro w hSw
                                  try dsimp only at hSw
                                  go_simp
                                  try with_reducible rfl
                                try simp only [List.getElem_toArray, List.getElem_cons_zero, List.getElem_cons_succ, Act.put, List.setIfInBounds_toArray, List.set_cons_zero, List.set_cons_succ]
                                refine wpAnyH_take (i := 7) (v := ?_) rfl (by kernel_rfl) (by kernel_rfl) (by kernel_rfl) (fun _ _ _ h => h) (Or.inl ⟨by rfl, ?_⟩) (by assumption) ?_
                                rotate_left
                                · intro w hSw
                                  try dsimp only at hSw
                                  go_simp
                                  try with_reducible rfl
                                try simp only [List.getElem_toArray, List.getElem_cons_zero, List.getElem_cons_succ, Act.put, List.setIfInBounds_toArray, List.set_cons_zero, List.set_cons_succ]
                                refine wpAnyH_take (i := 8) (v := ?_) rfl (by kernel_rfl) (by kernel_rfl) (by kernel_rfl) (fun _ _ _ h => h) (Or.inl ⟨by rfl, ?_⟩) (by assumption) ?_
                                rotate_left
                                · intro w hSw
                                  try dsimp only at hSw
                                  go_simp
                                  try with_reducible rfl
                                try simp only [List.getElem_toArray, List.getElem_cons_zero, List.getElem_cons_succ, Act.put, List.setIfInBounds_toArray, List.set_cons_zero, List.set_cons_succ]
                                refine wpAnyH_take (i := 9) (v := ?_) rfl (by kernel_rfl) (by kernel_rfl) (by kernel_rfl) (fun _ _ _ h => h) (Or.inl ⟨by rfl, ?_⟩) (by assumption) ?_
                                rotate_left
                                · intro w hSw
                                  try dsimp only at hSw
                                  go_simp
                                  try with_reducible rfl
                                try simp only [List.getElem_toArray, List.getElem_cons_zero, List.getElem_cons_succ, Act.put, List.setIfInBounds_toArray, List.set_cons_zero, List.set_cons_succ]
                                refine wpAnyH_take (i := 10) (v := ?_) rfl (by kernel_rfl) (by kernel_rfl) (by kernel_rfl) (fun _ _ _ h => h) (Or.inl ⟨by rfl, ?_⟩) (by assumption) ?_
                                rotate_left
                                · intro w hSw
                                  try dsimp only at hSw
                                  go_simp
                                  try with_reducible rfl
                                try simp only [List.getElem_toArray, List.getElem_cons_zero, List.getElem_cons_succ, Act.put, List.setIfInBounds_toArray, List.set_cons_zero, List.set_cons_succ]
                                refine wpAnyH_take (i := 11) (v := ?_) rfl (by kernel_rfl) (by kernel_rfl) (by kernel_rfl) (fun _ _ _ h => h) (Or.inl ⟨by rfl, ?_⟩) (by assumption) ?_
                                rotate_left
                                · intro w hSw
                                  try dsimp only at hSw
                                  go_simp
                                  try with_reducible rfl
                                try simp only [List.getElem_toArray, List.getElem_cons_zero, List.getElem_cons_succ, Act.put, List.setIfInBounds_toArray, List.set_cons_zero, List.set_cons_succ]
                                refine wpAnyH_take (i := 12) (v := ?_) rfl (by kernel_rfl) (by kernel_rfl) (by kernel_rfl) (fun _ _ _ h => h) (Or.inl ⟨by rfl, ?_⟩) (by assumption) ?_
                                rotate_left
                                · intro w hSw
                                  try dsimp only at hSw
                                  go_simp
                                  try with_reducible rfl
                                try simp only [List.getElem_toArray, List.getElem_cons_zero, List.getElem_cons_succ, Act.put, List.setIfInBounds_toArray, List.set_cons_zero, List.set_cons_succ]
                                refine wpAnyH_take (i := 13) (v := ?_) rfl (by kernel_rfl) (by kernel_rfl) (by kernel_rfl) (fun _ _ _ h => h) (Or.inl ⟨by rfl, ?_⟩) (by assumption) ?_
                                rotate_left
                                · intro w hSw
                                  try dsimp only at hSw
                                  go_simp
                                  try with_reducible rfl
                                try simp only [List.getElem_toArray, List.getElem_cons_zero, List.getElem_cons_succ, Act.put, List.setIfInBounds_toArray, List.set_cons_zero, List.set_cons_succ]
                                refine wpAnyH_take (i := 14) (v := ?_) rfl (by kernel_rfl) (by kernel_rfl) (by kernel_rfl) (fun _ _ _ h => h) (Or.inl ⟨by rfl, ?_⟩) (by assumption) ?_
                                rotate_left
                                · intro w hSw
                                  try dsimp only at hSw
                                  go_simp
                                  try with_reducible rfl
                                try simp only [List.getElem_toArray, List.getElem_cons_zero, List.getElem_cons_succ, Act.put, List.setIfInBounds_toArray, List.set_cons_zero, List.set_cons_succ]
                                refine wpAnyH_take (i := 15) (v := ?_) rfl (by kernel_rfl) (by kernel_rfl) (by kernel_rfl) (fun _ _ _ h => h) (Or.inl ⟨by rfl, ?_⟩) (by assumption) ?_
                                rotate_left
                                · intro w hSw
                                  try dsimp only at hSw
                                  go_simp
                                  try with_reducible rfl
                                try simp only [List.getElem_toArray, List.getElem_cons_zero, List.getElem_cons_succ, Act.put, List.setIfInBounds_toArray, List.set_cons_zero, List.set_cons_succ]
                                refine wpAnyH_take (i := 16) (v := ?_) rfl (by kernel_rfl) (by kernel_rfl) (by kernel_rfl) (fun _ _ _ h => h) (Or.inl ⟨by rfl, ?_⟩) (by assumption) ?_
                                rotate_left
                                · intro w hSw
                                  try dsimp only at hSw
                                  go_simp
                                  try with_reducible rfl
                                try simp only [List.getElem_toArray, List.getElem_cons_zero, List.getElem_cons_succ, Act.put, List.setIfInBounds_toArray, List.set_cons_zero, List.set_cons_succ]
                                refine wpAnyH_take (i := 17) (v := ?_) rfl (by kernel_rfl) (by kernel_rfl) (by kernel_rfl) (fun _ _ _ h => h) (Or.inl ⟨by rfl, ?_⟩) (by assumption) ?_
                                rotate_left
                                · intro w hSw
                                  try dsimp only at hSw
                                  go_simp
                                  try with_reducible rfl
                                try simp only [List.getElem_toArray, List.getElem_cons_zero, List.getElem_cons_succ, Act.put, List.setIfInBounds_toArray, List.set_cons_zero, List.set_cons_succ]
                                refine wpAnyH_take (i := 18) (v := ?_) rfl (by kernel_rfl) (by kernel_rfl) (by kernel_rfl) (fun _ _ _ h => h) (Or.inl ⟨by rfl, ?_⟩) (by assumption) ?_
                                rotate_left
                                · intro w hSw
                                  try dsimp only at hSw
                                  go_simp
                                  try with_reducible rfl
                                try simp only [List.getElem_toArray, List.getElem_cons_zero, List.getElem_cons_succ, Act.put, List.setIfInBounds_toArray, List.set_cons_zero, List.set_cons_succ]
                                refine wpAnyH_take (i := 19) (v := ?_) rfl (by kernel_rfl) (by kernel_rfl) (by kernel_rfl) (fun _ _ _ h => h) (Or.inl ⟨by rfl, ?_⟩) (by assumption) ?_
                                rotate_left
                                · intro w hSw
                                  try dsimp only at hSw
                                  go_simp
                                  try with_reducible rfl
                                try simp only [List.getElem_toArray, List.getElem_cons_zero, List.getElem_cons_succ, Act.put, List.setIfInBounds_toArray, List.set_cons_zero, List.set_cons_succ]
                                refine wpAnyH_take (i := 20) (v := ?_) rfl (by kernel_rfl) (by kernel_rfl) (by kernel_rfl) (fun _ _ _ h => h) (Or.inl ⟨by rfl, ?_⟩) (by assumption) ?_
                                rotate_left
                                · intro w hSw
                                  try dsimp only at hSw
                                  go_simp
                                  try with_reducible rfl
                                try simp only [List.getElem_toArray, List.getElem_cons_zero, List.getElem_cons_succ, Act.put, List.setIfInBounds_toArray, List.set_cons_zero, List.set_cons_succ]
                                refine wpAnyH_take (i := 21) (v := ?_) rfl (by kernel_rfl) (by kernel_rfl) (by kernel_rfl) (fun _ _ _ h => h) (Or.inl ⟨by rfl, ?_⟩) (by assumption) ?_
                                rotate_left
                                · intro w hSw
                                  try dsimp only at hSw
                                  go_simp
                                  try with_reducible rfl
                                try simp only [List.getElem_toArray, List.getElem_cons_zero, List.getElem_cons_succ, Act.put, List.setIfInBounds_toArray, List.set_cons_zero, List.set_cons_succ]
                                refine wpAnyH_ready (rs := [22]) (by kernel_rfl) (by simp) ?_
                                refine AllReadyH.cons rfl (fun K hK => ?_) AllReadyH.nil
                                go_simp
                                refine (INTO.out _ (Below.refl _ _).drew).mono ?_
                                rintro e w8 ⟨rfl, hB8⟩
                                have HB8 := hid ((Below.refl wr.heap.size wr).drew.trans hB8)
                                refine hK.out _ _ (by (try dsimp only); exact KP.out _ HB8.out) (fun hHeld => ?_)
                                clear hK K
                                try simp only [List.getElem_toArray, List.getElem_cons_zero, List.getElem_cons_succ, Act.put, List.setIfInBounds_toArray, List.set_cons_zero, List.set_cons_succ]
                                refine wpAnyH_take (i := 23) (v := ?_) rfl (by kernel_rfl) (by kernel_rfl) (by kernel_rfl) (fun _ _ _ h => h) (Or.inl ⟨by rfl, ?_⟩) (by assumption) ?_
                                rotate_left
                                · intro w hSw
                                  try dsimp only at hSw
                                  go_simp
                                  try with_reducible rfl
                                try simp only [List.getElem_toArray, List.getElem_cons_zero, List.getElem_cons_succ, Act.put, List.setIfInBounds_toArray, List.set_cons_zero, List.set_cons_succ]
                                refine wpAnyH_take (i := 24) (v := ?_) rfl (by kernel_rfl) (by kernel_rfl) (by kernel_rfl) (fun _ _ _ h => h) (Or.inl ⟨by rfl, ?_⟩) (by assumption) ?_
                                rotate_left
                                · intro w hSw
                                  try dsimp only at hSw
                                  go_simp
                                  try with_reducible rfl
                                try simp only [List.getElem_toArray, List.getElem_cons_zero, List.getElem_cons_succ, Act.put, List.setIfInBounds_toArray, List.set_cons_zero, List.set_cons_succ]
                                refine wpAnyH_done (by kernel_rfl) ?_ _
                                go_wp2_with fail
                                go_roundw
                                case rel => exact ⟨r + 1, by go_num, by omega, by rw [HSN.out, HGR.out]; simp, HBR.out.trans (HB8.out.mono HBR.out.size)⟩
                                case measure => simp [intOf]; omega
                              · have hb : (cr == cp) = false := by simp [h1]
                                clear hqs
                                go_wp2_with fail
                                go_quiet (fail)
                                go_wp2_with fail
                                go_roundw
                                case rel => exact ⟨r + 1, by go_num, by omega, by rw [HSN.out, HGR.out]; simp [h1], bdrew HBR.out⟩
                                case measure => simp [intOf]; omega
                          · go_wp2_with fail
                            go_meet
                            exact ⟨by rw [HLE.out (by simp)], HBR.out⟩
                        · obtain rfl : n = r := by omega
                          have hE := HEN.out rfl
                          go_wp2_with fail
                          go_meet
                          exact ⟨by rw [hE], HBR.out⟩
                  case rest =>
                    obtain ⟨rfl, hB8⟩ := hcut
                    have HB8 := hid (HBA.out.trans (hB8.mono HBA.out.size))
                    obtain ⟨a0, a1, al⟩ := HXV.out _ hB8
                    obtain ⟨w8, hw8⟩ : ∃ w8, w8 = wc := ⟨_, rfl⟩
                    rw [← hw8] at HB8 hB8 a0 a1 al ⊢
                    clear hw8
                    cases iv
                    · have hf : F p q = some (x1, (t : Int)) := by
                        rw [HFE.out]
                        unfold failD
                        simp only
                        rw [← HPL.out, ← List.take_append_drop i pL, List.find?_append, List.find?_eq_none.2 (fun x hx => by
                          have h := HALL.out x hx
                          simp [h])]
                        rw [List.drop_eq_getElem_cons hil, List.find?_cons_of_pos]
                        · have := (List.getElem?_eq_some_iff.1 HXI.out).2
                          rw [this]; rfl
                        · have := (List.getElem?_eq_some_iff.1 HXI.out).2
                          rw [this]
                          simp [← HIP.out]
                      have HFP := hid hf
                      have HB82 := hid (HBQ.out.trans (HB8.out.mono HBQ.out.size))
                      have hff := (HB82.out.block _ (Array.getElem?_eq_some_iff.1 HF.out).1).trans HF.out
                      have f0 : w8.cell? ⟨w.heap.size + 1, 0, none⟩ = some (.int .i64 0) := by simp [World.cell?, hff]
                      have f1 : w8.cell? ⟨w.heap.size + 1, 1, none⟩ = some (.int .i64 0) := by simp [World.cell?, hff]
                      have f2 : w8.cell? ⟨w.heap.size + 1, 2, none⟩ = some (.int .i64 0) := by simp [World.cell?, hff]
                      have f3 : w8.cell? ⟨w.heap.size + 1, 3, none⟩ = some (.int .i64 0) := by simp [World.cell?, hff]
                      have z0 : w8.frozen? ⟨w.heap.size + 1, 0, none⟩ = false := by simp [World.frozen?, hff]
                      have z1 : w8.frozen? ⟨w.heap.size + 1, 1, none⟩ = false := by simp [World.frozen?, hff]
                      have z2 : w8.frozen? ⟨w.heap.size + 1, 2, none⟩ = false := by simp [World.frozen?, hff]
                      have z3 : w8.frozen? ⟨w.heap.size + 1, 3, none⟩ = false := by simp [World.frozen?, hff]
                      have fl := (Array.getElem?_eq_some_iff.1 hff).1
                      have HBE := hid (HB2.out.trans (HB82.out.mono HB2.out.size))
                      clear hff hf hB8
                      go_wp2_with fail
                      refine bodyPost_ret (v := .tuple #[.agg #[.int .i64 p, .int .i64 q, .int .i64 x1, .int .i64 t], .bool false]) (by simp [results, Tryz.results32, go_sem, f0, f1, f2, f3]) rfl ⟨.inl ⟨p, q, (x1, (t : Int)), hpn, hqn, HCC.out, by have h := HFP.out; rw [HFE.out] at h; exact h, fun p' q' h1 h2 h3 h4 => ?_, rfl⟩, ?_⟩
                      · have h : F p' q' = none := by
                          rcases h3 with h3 | ⟨rfl, h3⟩
                          · exact HNO.out p' q' h1 h2 h3 h4
                          · exact HNQ.out q' h2 h3 h4
                        rw [HFE.out] at h
                        exact h
                      · exact (((HBE.out.setCell (p := ⟨w.heap.size + 1, 0, none⟩) (by simp) _).setCell (p := ⟨w.heap.size + 1, 1, none⟩) (by simp) _).setCell (p := ⟨w.heap.size + 1, 2, none⟩) (by simp) _).setCell (p := ⟨w.heap.size + 1, 3, none⟩) (by simp) _
                    · have HALL2 : Hid (∀ x ∈ pL.take (i + 1), (x.1, atL C x.2) ∈ lateD s.norm C q) := hid (fun x hx => by
                        rw [take_snoc HXI.out] at hx
                        rcases List.mem_append.1 hx with hx | hx
                        · exact HALL.out x hx
                        · simp only [List.mem_singleton] at hx
                          subst hx
                          exact of_decide_eq_true HIP.out.symm)
                      clear hB8
                      go_wp2_with fail
                      go_roundw
                      case rel => exact ⟨i + 1, by go_num, by omega, HB8.out, HALL2.out⟩
                      case measure => simp [intOf]; omega
                · obtain rfl : i = pL.length := by omega
                  have hall := HALL.out
                  rw [List.take_length] at hall
                  have hnone : F p q = none := by
                    rw [HFE.out]
                    unfold failD
                    simp only
                    rw [← HPL.out, List.find?_eq_none]
                    intro x hx
                    have h := hall x hx
                    simp [h]
                  have HNN := hid hnone
                  clear hall hnone hrs
                  go_wp2_with fail
                  go_roundw
                  case rel => exact ⟨q + 1, by go_num, by omega, HBQ.out.trans (HB.out.mono HBQ.out.size), fun q' h1 h2 h3 => by
                    rcases Nat.lt_or_ge q' q with h | h
                    · exact HNQ.out q' h1 h h3
                    · obtain rfl : q' = q := by omega
                      exact HNN.out⟩
                  case measure => simp [intOf]; omega
            · have HCC := hid hcc
              obtain ⟨cp, hcp⟩ : ∃ cp, cp = atL C (p : Int) := ⟨_, rfl⟩
              obtain ⟨cq, hcq⟩ : ∃ cq, cq = atL C (q : Int) := ⟨_, rfl⟩
              rw [← hcp] at c0
              rw [← hcq] at d0
              rw [← hcp, ← hcq] at hcc
              have hc2 : (cp != cq) = true := by simp [hcc]
              clear hcw hcp hcq
              go_wp2_with fail
              go_quiet (fail)
              go_wp2_with fail
              go_roundw
              case rel => exact ⟨q + 1, by go_num, by omega, bdrew HB.out, fun q' h1 h2 h3 => by
                rcases Nat.lt_or_ge q' q with h | h
                · exact HNQ.out q' h1 h h3
                · obtain rfl : q' = q := by omega
                  exact absurd h3 HCC.out⟩
              case measure => simp [intOf]; omega
        · obtain rfl : n = q := by omega
          have HNP : Hid (∀ p' q', p' < n → q' < n → p' < p + 1 → atL C (p' : Int) = atL C (q' : Int) → F p' q' = none) := hid (fun p' q' h1 h2 h3 h4 => by
            rcases Nat.lt_or_ge p' p with h | h
            · exact HNO.out p' q' h1 h2 h h4
            · obtain rfl : p' = p := by omega
              exact HNQ.out q' h2 h2 h4)
          clear hcw
          go_wp2_with fail
          go_roundw
          case rel => exact ⟨p + 1, by go_num, by omega, HB.out, HNP.out⟩
          case measure => simp [intOf]; omega
    · obtain rfl : n = p := by omega
      have hff := (HB.out.block _ (Array.getElem?_eq_some_iff.1 HF.out).1).trans HF.out
      have f0 : wr.cell? ⟨w.heap.size + 1, 0, none⟩ = some (.int .i64 0) := by simp [World.cell?, hff]
      have f1 : wr.cell? ⟨w.heap.size + 1, 1, none⟩ = some (.int .i64 0) := by simp [World.cell?, hff]
      have f2 : wr.cell? ⟨w.heap.size + 1, 2, none⟩ = some (.int .i64 0) := by simp [World.cell?, hff]
      have f3 : wr.cell? ⟨w.heap.size + 1, 3, none⟩ = some (.int .i64 0) := by simp [World.cell?, hff]
      have z0 : wr.frozen? ⟨w.heap.size + 1, 0, none⟩ = false := by simp [World.frozen?, hff]
      have z1 : wr.frozen? ⟨w.heap.size + 1, 1, none⟩ = false := by simp [World.frozen?, hff]
      have z2 : wr.frozen? ⟨w.heap.size + 1, 2, none⟩ = false := by simp [World.frozen?, hff]
      have z3 : wr.frozen? ⟨w.heap.size + 1, 3, none⟩ = false := by simp [World.frozen?, hff]
      have fl := (Array.getElem?_eq_some_iff.1 hff).1
      have HBE := hid (HB2.out.trans (HB.out.mono HB2.out.size))
      clear hff HB
      go_wp2_with fail
      refine bodyPost_ret (v := .tuple #[.agg #[.int .i64 0, .int .i64 0, .int .i64 0, .int .i64 0], .bool true]) (by simp [results, Tryz.results32, go_sem, f0, f1, f2, f3]) rfl ⟨.inr ⟨fun p q h1 h2 h3 => by have h := HNO.out p q h1 h2 h1 h3; rw [HFE.out] at h; exact h, rfl⟩, ?_⟩
      exact (((HBE.out.setCell (p := ⟨w.heap.size + 1, 0, none⟩) (by simp) _).setCell (p := ⟨w.heap.size + 1, 1, none⟩) (by simp) _).setCell (p := ⟨w.heap.size + 1, 2, none⟩) (by simp) _).setCell (p := ⟨w.heap.size + 1, 3, none⟩) (by simp) _
set_option maxRecDepth 100000 in
set_option maxHeartbeats 16000000 in
theorem look3_any {s : Lts} {n lb : Nat} (hr : s.Right) (hn : s.st = (n : Int)) (hn3 : n ≤ 300) (hlb : s.lb = (lb : Int)) {a : Option Addr} {b off c : Nat} {w : World} (hS : SlAt encE 3 w a b off s.es) (hc : s.es.length ≤ c) (hcm : c ≤ maxLen)
    {C : List Int} (hCl : C.length = n) {f : Nat → Int} (hCf : C = fl n f) {ca : Option Addr} {cb co cc : Nat} (hC : SlAt encI 1 w ca cb co C) :
    Calls Tryz.prog 32 #[.agg #[.int .i64 s.st, .int .i64 s.lb, .int .i64 s.s0, .slice a s.es.length c], .slice ca n cc, .int .i64 3] w fun e w' => LookE s.norm n C (looseD s.norm C) e ∧ Below w.heap.size w w' := by
  obtain ⟨W, hW⟩ : ∃ W, W = (w.alloc (.cells #[.int .i64 s.st, .int .i64 s.lb, .int .i64 s.s0, .slice a s.es.length c] 24)).alloc (.cells #[.int .i64 0, .int .i64 0, .int .i64 0, .int .i64 0] 71) := ⟨_, rfl⟩
  have hB0 : Below w.heap.size w W := by rw [hW]; exact ((Below.refl _ _).alloc (Nat.le_refl _) _).alloc (by simp) _
  have h1 : W.heap[w.heap.size]? = some (.cells #[.int .i64 s.st, .int .i64 s.lb, .int .i64 s.s0, .slice a s.es.length c] 24 (0, 0)) := by
    rw [hW, Below.heap_alloc _ _ _ (by simp)]; exact heap_alloc_new w _
  have h2 : W.heap[w.heap.size + 1]? = some (.cells #[.int .i64 0, .int .i64 0, .int .i64 0, .int .i64 0] 71 (0, 0)) := by
    have h := heap_alloc_new (w.alloc (.cells #[.int .i64 s.st, .int .i64 s.lb, .int .i64 s.s0, .slice a s.es.length c] 24)) (.cells #[.int .i64 0, .int .i64 0, .int .i64 0, .int .i64 0] 71)
    rw [show (w.alloc (.cells #[.int .i64 s.st, .int .i64 s.lb, .int .i64 s.s0, .slice a s.es.length c] 24)).heap.size = w.heap.size + 1 by simp] at h
    rw [hW]; exact h
  have hou : Calls Tryz.prog 44 #[.agg #[.int .i64 s.st, .int .i64 s.lb, .int .i64 s.s0, .slice a s.es.length c]] W fun e w' => ∃ ob, e = .returned (.slice (some ⟨ob, 0, none⟩) n n) ∧ StepsIn w' ob n (fun p => s.norm.outs (p : Int)) ∧ Below W.heap.size W w' := by
    refine (refOut_any hr (hS.below hB0 (Nat.le_refl _)) hc hcm).mono ?_
    rintro e w' ⟨ob, n', base, hn', rfl, hrows, _, hB⟩
    obtain rfl : n = n' := by omega
    exact ⟨ob, rfl, StepsIn.of hrows, hB⟩
  have hst : ∀ V, Below w.heap.size w V → Calls Tryz.prog 105 #[.agg #[.int .i64 s.st, .int .i64 s.lb, .int .i64 s.s0, .slice a s.es.length c]] V fun e w' => ∃ wb, e = .returned (.slice (some ⟨wb, 0, none⟩) n n) ∧ StepsIn w' wb n (wkL s n lb) ∧ V.heap.size ≤ wb ∧ Below V.heap.size V w' := fun V hV => refSteps_any hr hn hlb hn3 (hS.below hV (Nat.le_refl _)) hc hcm
  obtain ⟨el, hel⟩ : ∃ el, el = s.es.length := ⟨_, rfl⟩
  rw [hn, ← hel] at hou hW h1
  rw [hn, ← hel] at hst
  have HST := hid hst
  clear hst
  rw [hn, ← hel]
  have HR := hid hr; have HN := hid hn; have HLB := hid hlb; have HW := hid hW; have HB0 := hid hB0; have H1 := hid h1; have H2 := hid h2; have HOU := hid hou; have HC := hid hC; have HCL := hid hCl; have HCF := hid hCf
  clear hr hn hlb hS hc hcm hCl hCf hC hW hB0 h1 h2 hou hel
  go_enter Tryz.func32, Tryz.ntmps32
  go_wp2_with fail
  rw [← HW.out]
  obtain ⟨x0, x1, x2, x3, x4⟩ := sysC H1.out
  go_wp2_with fail
  refine HOU.out.mono ?_
  rintro e wO ⟨ob, rfl, hso, hB1⟩
  obtain ⟨y0, y1, y2, y3, y4⟩ := sysC ((hB1.block _ (Array.getElem?_eq_some_iff.1 H1.out).1).trans H1.out)
  have hst := HST.out wO (HB0.out.trans (hB1.mono HB0.out.size))
  have HB1 := hid hB1; have HSO1 := hid hso; have HST1 := hid hst
  clear x0 x1 x2 x3 x4 hB1 hso HOU HW HST hst
  go_wp2_with fail
  refine HST1.out.mono ?_
  rintro e w2 ⟨wb, rfl, hsw, _, hBs⟩
  have hB2 := HB1.out.trans (hBs.mono HB1.out.size)
  have HX := hid ((hB2.block _ (Array.getElem?_eq_some_iff.1 H1.out).1).trans H1.out)
  have HF := hid ((hB2.block _ (Array.getElem?_eq_some_iff.1 H2.out).1).trans H2.out)
  have HB2 := hid (HB0.out.trans (hB2.mono HB0.out.size)); have HSO := hid (HSO1.out.below hBs); have HSW := hid hsw
  clear y0 y1 y2 y3 y4 hB2 hBs hsw HB1 HSO1 HST1 HB0 H1 H2
  obtain ⟨x0, x1, x2, x3, x4⟩ := sysC HX.out
  go_wp2_with fail
  clear x0 x1 x2 x3 x4
  have HCX : Hid (∀ i, i < n → C[i]? = some (atL C (i : Int))) := hid (fun i hi => by
    unfold atL
    rw [Int.toNat_natCast, List.getD_eq_getElem?_getD]
    have := List.getElem?_eq_getElem (l := C) (i := i) (by have := HCL.out; omega)
    rw [this]; rfl)
  obtain ⟨F, hF⟩ : ∃ F : Nat → Nat → Option S, F = fun p q => failD s.norm C (looseD s.norm C) p q := ⟨_, rfl⟩
  have HFE := hid hF
  clear hF
  go_loopw [10, 11, 12, 13, 14, 15, 16, 120, 129] (fun v10 _ _ _ _ _ _ _ _ wr => ∃ p : Nat, v10 = .int .i64 p ∧ p ≤ n ∧ Below w2.heap.size w2 wr ∧ ∀ p' q', p' < n → q' < n → p' < p → atL C (p' : Int) = atL C (q' : Int) → F p' q' = none) (fun v10 _ _ _ _ _ _ _ _ _ => n - (intOf v10).toNat)
  case atStart => exact ⟨0, rfl, Nat.zero_le _, Below.refl _ _, fun _ _ _ _ h => by omega⟩
  case round =>
    obtain ⟨p, rfl, hp, hB, hno⟩ := hrel
    have HB := hid hB; have HNO := hid hno
    have hxr := (hB.block w.heap.size (Array.getElem?_eq_some_iff.1 HX.out).1).trans HX.out
    obtain ⟨x0, x1, x2, x3, x4⟩ := sysC hxr
    clear hB hno hxr
    by_cases hpn : p < n
    · have hpI : (p : Int) < (n : Int) := by omega
      go_wp2_with fail
      clear x0 x1 x2 x3 x4
      go_loopw [11, 12, 13, 14, 15, 16, 120, 129] (fun v11 _ _ _ _ _ _ _ wr => ∃ q : Nat, v11 = .int .i64 q ∧ q ≤ n ∧ Below w2.heap.size w2 wr ∧ ∀ q', q' < n → q' < q → atL C (p : Int) = atL C (q' : Int) → F p q' = none) (fun v11 _ _ _ _ _ _ _ _ => n - (intOf v11).toNat)
      case atStart => exact ⟨0, rfl, Nat.zero_le _, HB.out, fun _ _ h => by omega⟩
      case round =>
        obtain ⟨q, rfl, hq, hB, hno⟩ := hrel
        have HB := hid hB; have HNQ := hid hno
        have hxr := (hB.block w.heap.size (Array.getElem?_eq_some_iff.1 HX.out).1).trans HX.out
        obtain ⟨x0, x1, x2, x3, x4⟩ := sysC hxr
        have hcw := HC.out.below (HB2.out.trans (hB.mono HB2.out.size)) (Nat.le_refl _)
        clear hB hno hxr
        by_cases hqn : q < n
        · have hqI : (q : Int) < (n : Int) := by omega
          obtain rfl := hcw.ad (by rw [HCL.out]; omega)
          have c0 := hcw.ci (HCX.out p hpn)
          have cl := World.block_lt_of_cell? _ _ c0
          by_cases hpq : p = q
          · subst hpq
            obtain ⟨cp, hcp⟩ : ∃ cp, cp = atL C (p : Int) := ⟨_, rfl⟩
            rw [← hcp] at c0
            have hcc : (cp != cp) = false := by simp
            have hself : F p p = none := by
              rw [HFE.out]
              unfold failD
              simp only
              rw [List.find?_eq_none]
              intro x hx
              obtain ⟨t, ht, htn⟩ : ∃ t : Nat, x.2 = (t : Int) ∧ t < n := by
                have h := offB_false.1 (HR.out.norm.edges _ (mem_outs.1 hx))
                have hn := HN.out
                have e : s.norm.st = s.st := rfl
                simp only at h
                exact ⟨x.2.toNat, by omega, by omega⟩
              have hs : stp s p x.1 t := by
                have h := mem_outs.1 hx
                rw [ht] at h
                exact (mem_nf stoE _ _).1 h
              have : (x.1, atL C x.2) ∈ looseD s.norm C p := by
                rw [HCF.out, mem_looseD HR.out.norm (show s.norm.st = (n : Int) from HN.out) hpn, ht, atL_flW htn]
                exact ⟨t, wst_normK.2 (stp_wst hs), rfl⟩
              simp [this]
            have HSELF := hid hself
            clear hcw hself hcp
            go_wp2_with fail
            go_quiet (fail)
            go_wp2_with fail
            go_roundw
            case rel => exact ⟨p + 1, by go_num, by omega, bdrew HB.out, fun q' h1 h2 h3 => by
              rcases Nat.lt_or_ge q' p with h | h
              · exact HNQ.out q' h1 h h3
              · obtain rfl : q' = p := by omega
                exact HSELF.out⟩
            case measure => simp [intOf]; omega
          · have hpqI : ¬ (p : Int) = (q : Int) := by omega
            have hpqb : ((p : Int) == (q : Int)) = false := by simp [hpqI]
            have d0 := hcw.ci (HCX.out q hqn)
            by_cases hcc : atL C (p : Int) = atL C (q : Int)
            · rw [hcc] at c0
              have HCC := hid hcc
              obtain ⟨cq, hcq⟩ : ∃ cq, cq = atL C (q : Int) := ⟨_, rfl⟩
              rw [← hcq] at c0 d0
              have hc2 : (cq != cq) = false := by simp
              have HCQ := hid hcq
              clear hcw hcq
              go_wp2_with fail
              go_quiet (fail)
              clear hpqI hpq
              go_wp2_with fail
              obtain ⟨wQ, hwQ⟩ : ∃ wQ, wQ = wr.drewN nq := ⟨_, rfl⟩
              have HBQ : Hid (Below w2.heap.size w2 wQ) := hid (by rw [hwQ]; exact bdrew HB.out)
              rw [← hwQ]
              clear hwQ c0 d0 cl HB x0 x1 x2 x3 x4
              obtain ⟨pL, hpL⟩ : ∃ pL, pL = s.norm.outs (p : Int) := ⟨_, rfl⟩
              have hpl : pL.length ≤ 10000 := by rw [hpL]; exact outs_len HR.out.norm _
              have HPR : Hid (∀ V, Below wQ.heap.size wQ V → ∃ ra rc rb ro, V.cell? ⟨ob, p, none⟩ = some (.slice ra pL.length rc) ∧ SlAt encS 2 V ra rb ro pL ∧ ob < V.heap.size) := hid (fun V hV => by
                have hV2 := HBQ.out.trans (hV.mono HBQ.out.size)
                obtain ⟨ra, rc, rb, ro, h1, h2⟩ := (HSO.out.below hV2).at_ p hpn
                rw [← hpL] at h1 h2
                exact ⟨ra, rc, rb, ro, h1, h2, (HSO.out.below hV2).lt⟩)
              have HRG : Hid (∀ (L : List S) (k : Nat), L = s.norm.outs (k : Int) → ∀ x ∈ L, 0 ≤ x.2 ∧ x.2 < (n : Int)) := hid (fun L k hL x hx => by
                rw [hL] at hx
                have h := offB_false.1 (HR.out.norm.edges _ (mem_outs.1 hx))
                have hn := HN.out
                have e : s.norm.st = s.st := rfl
                simp only at h
                omega)
              obtain ⟨rL, hrL⟩ : ∃ rL, rL = wkL s n lb q := ⟨_, rfl⟩
              have hrl : rL.length ≤ 1000000 := by
                rw [hrL]
                have h1 := rowsL_len lb n (kZ (silG s) q (visZ s.norm (silG s) q n))
                have h2 : lb * n ≤ 201 * 300 := Nat.mul_le_mul (by have := HR.out.st0; have := HLB.out; omega) hn3
                have h3 : (wkL s n lb q).length ≤ lb * n := h1
                omega
              have hrr : ∀ x ∈ rL, 0 ≤ x.2 ∧ x.2 < (n : Int) := fun x hx => by
                rw [hrL] at hx
                obtain ⟨l, u, rfl, _, h, _⟩ := (mem_wkL HR.out HN.out hqn).1 hx
                simp only
                omega
              have HQR : Hid (∀ V, Below wQ.heap.size wQ V → ∃ ra rc rb ro, V.cell? ⟨wb, q, none⟩ = some (.slice ra rL.length rc) ∧ SlAt encS 2 V ra rb ro rL ∧ wb < V.heap.size) := hid (fun V hV => by
                have hV2 := HBQ.out.trans (hV.mono HBQ.out.size)
                obtain ⟨ra, rc, rb, ro, h1, h2⟩ := (HSW.out.below hV2).at_ q hqn
                rw [← hrL] at h1 h2
                exact ⟨ra, rc, rb, ro, h1, h2, (HSW.out.below hV2).lt⟩)
              have HRR := hid hrr; have HRL := hid hrL
              clear hrr hrL
              have HPL := hid hpL
              clear hpL
              go_loopw [13, 14, 15, 16, 120, 129] (fun v13 _ _ _ _ _ wr => ∃ i : Nat, v13 = .int .i64 i ∧ i ≤ pL.length ∧ Below wQ.heap.size wQ wr ∧ ∀ x ∈ pL.take i, (x.1, atL C x.2) ∈ looseD s.norm C q) (fun v13 _ _ _ _ _ _ => pL.length - (intOf v13).toNat)
              case atStart => exact ⟨0, rfl, Nat.zero_le _, Below.refl _ _, by simp⟩
              case round =>
                obtain ⟨i, rfl, hi, hB, hall⟩ := hrel
                have HB := hid hB; have HALL := hid hall
                obtain ⟨ra, rc, rb, ro, c0, hrs, xl⟩ := HPR.out _ hB
                clear hB hall
                by_cases hil : i < pL.length
                · have hiI : (i : Int) < (pL.length : Int) := by omega
                  obtain ⟨x, hx⟩ := getElem?_of_lt hil
                  obtain rfl := hrs.ad (by omega)
                  have d0 := hrs.s0 hx; have d1 := hrs.s1 hx
                  have dl := hrs.lt (by omega)
                  obtain ⟨t1, t2⟩ := HRG.out pL p HPL.out x (List.mem_of_getElem? hx)
                  have HXI := hid hx
                  obtain ⟨x1, x2⟩ := x
                  simp only at d0 d1 t1 t2
                  obtain ⟨t, rfl⟩ := Int.eq_ofNat_of_zero_le t1
                  have htn : t < n := by omega
                  clear hrs hx t1 t2
                  have hbA := HB.out.alloc HB.out.size (.cells #[.int .i64 x1, .int .i64 (t : Int)] 131)
                  have hxA := heap_alloc_new wr (.cells #[.int .i64 x1, .int .i64 (t : Int)] 131)
                  obtain ⟨xk, hxk⟩ : ∃ xk, xk = wr.heap.size := ⟨_, rfl⟩
                  rw [← hxk] at hxA
                  have HXK := hid hxk
                  have HBA := hid hbA; have HXA := hid hxA
                  clear hxk hbA hxA
                  go_upto_block 6 with fail
                  rw [← HXK.out]
                  obtain ⟨wA, hwA⟩ : ∃ wA, wA = wr.alloc (.cells #[.int .i64 x1, .int .i64 (t : Int)] 131) := ⟨_, rfl⟩
                  rw [← hwA] at HBA HXA ⊢
                  have HCW : Hid (∀ V, Below wA.heap.size wA V → SlAt encI 1 V (some ⟨cb, co, none⟩) cb co C) := hid (fun V hV => HC.out.below (HB2.out.trans ((HBQ.out.trans ((HBA.out.trans (hV.mono HBA.out.size)).mono HBQ.out.size)).mono HB2.out.size)) (Nat.le_refl _))
                  have HXV : Hid (∀ V, Below wA.heap.size wA V → V.cell? ⟨xk, 0, none⟩ = some (.int .i64 x1) ∧ V.cell? ⟨xk, 1, none⟩ = some (.int .i64 (t : Int)) ∧ xk < V.heap.size) := hid (fun V hV => by
                    have h1 := (hV.block xk (Array.getElem?_eq_some_iff.1 HXA.out).1).trans HXA.out
                    exact ⟨by simp [World.cell?, h1], by simp [World.cell?, h1], (Array.getElem?_eq_some_iff.1 h1).1⟩)
                  clear hwA c0 d0 d1 dl xl
                  obtain ⟨qa, qc, qb, qo, _, hqs, _⟩ := HQR.out wA HBA.out
                  have HQS := hid hqs
                  obtain ⟨rl, hrlE⟩ : ∃ rl, rl = rL.length := ⟨_, rfl⟩
                  have KEEP : Hid (∀ V, Below wA.heap.size wA V → (V.cell? ⟨wb, q, none⟩ = some (.slice qa rl qc) ∧ wb < V.heap.size) ∧ (V.cell? ⟨xk, 0, none⟩ = some (.int .i64 x1) ∧ V.cell? ⟨xk, 1, none⟩ = some (.int .i64 (t : Int)) ∧ xk < V.heap.size) ∧ Below wA.heap.size wA V) := hid (fun V hV => by
                    have h0 := World.block_lt_of_cell? _ _ ‹wA.cell? _ = some (.slice qa rL.length qc)›
                    refine ⟨⟨by rw [hV.cell (p := ⟨wb, q, none⟩) h0, hrlE]; assumption, Nat.lt_of_lt_of_le h0 hV.size⟩, HXV.out V hV, hV⟩)
                  have INTO : Hid (∀ V, Below wA.heap.size wA V → Calls Tryz.prog 107 #[.slice qa rl qc, .agg #[.int .i64 x1, .int .i64 (t : Int)], .slice (some ⟨cb, co, none⟩) n cc] V fun e w' => e = .returned (.bool (intoB C rL (x1, (t : Int)))) ∧ Below V.heap.size V w') := hid (fun V hV => by
                    rw [hrlE]
                    exact into_any (HQS.out.below hV (Nat.le_refl _)) hrl HCL.out (HCW.out V hV) (by omega) HRR.out htn)
                  obtain ⟨iv, hiv⟩ : ∃ iv, iv = intoB C rL (x1, (t : Int)) := ⟨_, rfl⟩
                  rw [← hiv] at INTO
                  have HIP : Hid (iv = decide ((x1, atL C (t : Int)) ∈ looseD s.norm C q)) := hid (by
                    rw [hiv, HRL.out]
                    have h := into_loose (f := f) (x := (x1, (t : Int))) HR.out HN.out HLB.out hqn
                    rw [← HCF.out] at h
                    exact h)
                  clear hqs hiv HQS hrlE
                  go_cut [15, 16] from 70 to 137 (fun v15 _ wx => v15 = .bool iv ∧ Below wA.heap.size wA wx)
                  case first =>
                    go_wp2_with fail
                    refine wp_region_held_drew (S := (fun V => (V.cell? ⟨wb, q, none⟩ = some (.slice qa rl qc) ∧ wb < V.heap.size) ∧ (V.cell? ⟨xk, 0, none⟩ = some (.int .i64 x1) ∧ V.cell? ⟨xk, 1, none⟩ = some (.int .i64 (t : Int)) ∧ xk < V.heap.size) ∧ Below wA.heap.size wA V)) (by kernel_rfl) (by (try dsimp only); exact KEEP.out _ (Below.refl _ _).drew) (fun hHeld => ?_)
                    refine wpAnyH_take (i := 0) (v := ?_) rfl (by kernel_rfl) (by kernel_rfl) (by kernel_rfl) (fun _ _ _ h => h) (Or.inl ⟨by rfl, ?_⟩) (by assumption) ?_
                    rotate_left
                    · intro w hSw
                      try dsimp only at hSw
                      go_simp
                      try with_reducible rfl
                    try simp only [List.getElem_toArray, List.getElem_cons_zero, Act.put, List.setIfInBounds_toArray, List.set_cons_zero, List.set_cons_succ]
                    refine wpAnyH_take (i := 1) (v := ?_) rfl (by kernel_rfl) (by kernel_rfl) (by kernel_rfl) (fun _ _ _ h => h) (Or.inl ⟨by rfl, ?_⟩) (by assumption) ?_
                    rotate_left
                    · intro w hSw
                      try dsimp only at hSw
                      go_simp
                      try with_reducible rfl
                    try simp only [List.getElem_toArray, List.getElem_cons_zero, List.getElem_cons_succ, Act.put, List.setIfInBounds_toArray, List.set_cons_zero, List.set_cons_succ]
                    refine wpAnyH_take (i := 2) (v := ?_) rfl (by kernel_rfl) (by kernel_rfl) (by kernel_rfl) (fun _ _ _ h => h) (Or.inl ⟨by rfl, ?_⟩) (by assumption) ?_
                    rotate_left
                    · intro w hSw
                      try dsimp only at hSw
                      go_simp
                      try with_reducible rfl
                    try simp only [List.getElem_toArray, List.getElem_cons_zero, List.getElem_cons_succ, Act.put, List.setIfInBounds_toArray, List.set_cons_zero, List.set_cons_succ]
                    refine wpAnyH_take (i := 3) (v := ?_) rfl (by kernel_rfl) (by kernel_rfl) (by kernel_rfl) (fun _ _ _ h => h) (Or.inl ⟨by rfl, ?_⟩) (by assumption) ?_
                    rotate_left
                    · intro w hSw
                      try dsimp only at hSw
                      go_simp
                      try with_reducible rfl
                    try simp only [List.getElem_toArray, List.getElem_cons_zero, List.getElem_cons_succ, Act.put, List.setIfInBounds_toArray, List.set_cons_zero, List.set_cons_succ]
                    refine wpAnyH_take (i := 4) (v := ?_) rfl (by kernel_rfl) (by kernel_rfl) (by kernel_rfl) (fun _ _ _ h => h) (Or.inl ⟨by rfl, ?_⟩) (by assumption) ?_
                    rotate_left
                    · intro w hSw
                      try dsimp only at hSw
                      go_simp
                      try with_reducible rfl
                    try simp only [List.getElem_toArray, List.getElem_cons_zero, List.getElem_cons_succ, Act.put, List.setIfInBounds_toArray, List.set_cons_zero, List.set_cons_succ]
                    refine wpAnyH_take (i := 5) (v := ?_) rfl (by kernel_rfl) (by kernel_rfl) (by kernel_rfl) (fun _ _ _ h => h) (Or.inl ⟨by rfl, ?_⟩) (by assumption) ?_
                    rotate_left
                    · intro w hSw
                      try dsimp only at hSw
                      go_simp
                      try with_reducible rfl
                    try simp only [List.getElem_toArray, List.getElem_cons_zero, List.getElem_cons_succ, Act.put, List.setIfInBounds_toArray, List.set_cons_zero, List.set_cons_succ]
                    refine wpAnyH_ready (rs := [6]) (by kernel_rfl) (by simp) ?_
                    refine AllReadyH.cons rfl (fun K hK => ?_) AllReadyH.nil
                    go_simp
                    refine (INTO.out _ (Below.refl _ _).drew).mono ?_
                    rintro e w8 ⟨rfl, hB8⟩
                    have HB8 := hid ((Below.refl wA.heap.size wA).drew.trans hB8)
                    refine hK.out _ _ (by (try dsimp only); exact KEEP.out _ HB8.out) (fun hHeld => ?_)
                    clear hK K
                    try simp only [List.getElem_toArray, List.getElem_cons_zero, List.getElem_cons_succ, Act.put, List.setIfInBounds_toArray, List.set_cons_zero, List.set_cons_succ]
                    refine wpAnyH_take (i := 7) (v := ?_) rfl (by kernel_rfl) (by kernel_rfl) (by kernel_rfl) (fun _ _ _ h => h) (Or.inl ⟨by rfl, ?_⟩) (by assumption) ?_
                    rotate_left
                    · intro w hSw
                      try dsimp only at hSw
                      go_simp
                      try with_reducible rfl
                    try simp only [List.getElem_toArray, List.getElem_cons_zero, List.getElem_cons_succ, Act.put, List.setIfInBounds_toArray, List.set_cons_zero, List.set_cons_succ]
                    refine wpAnyH_done (by kernel_rfl) ?_ _
                    go_wp2_with fail
                    go_meet
                    exact ⟨rfl, HB8.out⟩
                  case rest =>
                    obtain ⟨rfl, hB8⟩ := hcut
                    have HB8 := hid (HBA.out.trans (hB8.mono HBA.out.size))
                    obtain ⟨a0, a1, al⟩ := HXV.out _ hB8
                    obtain ⟨w8, hw8⟩ : ∃ w8, w8 = wc := ⟨_, rfl⟩
                    rw [← hw8] at HB8 hB8 a0 a1 al ⊢
                    clear hw8
                    cases iv
                    · have hf : F p q = some (x1, (t : Int)) := by
                        rw [HFE.out]
                        unfold failD
                        simp only
                        rw [← HPL.out, ← List.take_append_drop i pL, List.find?_append, List.find?_eq_none.2 (fun x hx => by
                          have h := HALL.out x hx
                          simp [h])]
                        rw [List.drop_eq_getElem_cons hil, List.find?_cons_of_pos]
                        · have := (List.getElem?_eq_some_iff.1 HXI.out).2
                          rw [this]; rfl
                        · have := (List.getElem?_eq_some_iff.1 HXI.out).2
                          rw [this]
                          simp [← HIP.out]
                      have HFP := hid hf
                      have HB82 := hid (HBQ.out.trans (HB8.out.mono HBQ.out.size))
                      have hff := (HB82.out.block _ (Array.getElem?_eq_some_iff.1 HF.out).1).trans HF.out
                      have f0 : w8.cell? ⟨w.heap.size + 1, 0, none⟩ = some (.int .i64 0) := by simp [World.cell?, hff]
                      have f1 : w8.cell? ⟨w.heap.size + 1, 1, none⟩ = some (.int .i64 0) := by simp [World.cell?, hff]
                      have f2 : w8.cell? ⟨w.heap.size + 1, 2, none⟩ = some (.int .i64 0) := by simp [World.cell?, hff]
                      have f3 : w8.cell? ⟨w.heap.size + 1, 3, none⟩ = some (.int .i64 0) := by simp [World.cell?, hff]
                      have z0 : w8.frozen? ⟨w.heap.size + 1, 0, none⟩ = false := by simp [World.frozen?, hff]
                      have z1 : w8.frozen? ⟨w.heap.size + 1, 1, none⟩ = false := by simp [World.frozen?, hff]
                      have z2 : w8.frozen? ⟨w.heap.size + 1, 2, none⟩ = false := by simp [World.frozen?, hff]
                      have z3 : w8.frozen? ⟨w.heap.size + 1, 3, none⟩ = false := by simp [World.frozen?, hff]
                      have fl := (Array.getElem?_eq_some_iff.1 hff).1
                      have HBE := hid (HB2.out.trans (HB82.out.mono HB2.out.size))
                      clear hff hf hB8
                      go_wp2_with fail
                      refine bodyPost_ret (v := .tuple #[.agg #[.int .i64 p, .int .i64 q, .int .i64 x1, .int .i64 t], .bool false]) (by simp [results, Tryz.results32, go_sem, f0, f1, f2, f3]) rfl ⟨.inl ⟨p, q, (x1, (t : Int)), hpn, hqn, HCC.out, by have h := HFP.out; rw [HFE.out] at h; exact h, fun p' q' h1 h2 h3 h4 => ?_, rfl⟩, ?_⟩
                      · have h : F p' q' = none := by
                          rcases h3 with h3 | ⟨rfl, h3⟩
                          · exact HNO.out p' q' h1 h2 h3 h4
                          · exact HNQ.out q' h2 h3 h4
                        rw [HFE.out] at h
                        exact h
                      · exact (((HBE.out.setCell (p := ⟨w.heap.size + 1, 0, none⟩) (by simp) _).setCell (p := ⟨w.heap.size + 1, 1, none⟩) (by simp) _).setCell (p := ⟨w.heap.size + 1, 2, none⟩) (by simp) _).setCell (p := ⟨w.heap.size + 1, 3, none⟩) (by simp) _
                    · have HALL2 : Hid (∀ x ∈ pL.take (i + 1), (x.1, atL C x.2) ∈ looseD s.norm C q) := hid (fun x hx => by
                        rw [take_snoc HXI.out] at hx
                        rcases List.mem_append.1 hx with hx | hx
                        · exact HALL.out x hx
                        · simp only [List.mem_singleton] at hx
                          subst hx
                          exact of_decide_eq_true HIP.out.symm)
                      clear hB8
                      go_wp2_with fail
                      go_roundw
                      case rel => exact ⟨i + 1, by go_num, by omega, HB8.out, HALL2.out⟩
                      case measure => simp [intOf]; omega
                · obtain rfl : i = pL.length := by omega
                  have hall := HALL.out
                  rw [List.take_length] at hall
                  have hnone : F p q = none := by
                    rw [HFE.out]
                    unfold failD
                    simp only
                    rw [← HPL.out, List.find?_eq_none]
                    intro x hx
                    have h := hall x hx
                    simp [h]
                  have HNN := hid hnone
                  clear hall hnone hrs
                  go_wp2_with fail
                  go_roundw
                  case rel => exact ⟨q + 1, by go_num, by omega, HBQ.out.trans (HB.out.mono HBQ.out.size), fun q' h1 h2 h3 => by
                    rcases Nat.lt_or_ge q' q with h | h
                    · exact HNQ.out q' h1 h h3
                    · obtain rfl : q' = q := by omega
                      exact HNN.out⟩
                  case measure => simp [intOf]; omega
            · have HCC := hid hcc
              obtain ⟨cp, hcp⟩ : ∃ cp, cp = atL C (p : Int) := ⟨_, rfl⟩
              obtain ⟨cq, hcq⟩ : ∃ cq, cq = atL C (q : Int) := ⟨_, rfl⟩
              rw [← hcp] at c0
              rw [← hcq] at d0
              rw [← hcp, ← hcq] at hcc
              have hc2 : (cp != cq) = true := by simp [hcc]
              clear hcw hcp hcq
              go_wp2_with fail
              go_quiet (fail)
              go_wp2_with fail
              go_roundw
              case rel => exact ⟨q + 1, by go_num, by omega, bdrew HB.out, fun q' h1 h2 h3 => by
                rcases Nat.lt_or_ge q' q with h | h
                · exact HNQ.out q' h1 h h3
                · obtain rfl : q' = q := by omega
                  exact absurd h3 HCC.out⟩
              case measure => simp [intOf]; omega
        · obtain rfl : n = q := by omega
          have HNP : Hid (∀ p' q', p' < n → q' < n → p' < p + 1 → atL C (p' : Int) = atL C (q' : Int) → F p' q' = none) := hid (fun p' q' h1 h2 h3 h4 => by
            rcases Nat.lt_or_ge p' p with h | h
            · exact HNO.out p' q' h1 h2 h h4
            · obtain rfl : p' = p := by omega
              exact HNQ.out q' h2 h2 h4)
          clear hcw
          go_wp2_with fail
          go_roundw
          case rel => exact ⟨p + 1, by go_num, by omega, HB.out, HNP.out⟩
          case measure => simp [intOf]; omega
    · obtain rfl : n = p := by omega
      have hff := (HB.out.block _ (Array.getElem?_eq_some_iff.1 HF.out).1).trans HF.out
      have f0 : wr.cell? ⟨w.heap.size + 1, 0, none⟩ = some (.int .i64 0) := by simp [World.cell?, hff]
      have f1 : wr.cell? ⟨w.heap.size + 1, 1, none⟩ = some (.int .i64 0) := by simp [World.cell?, hff]
      have f2 : wr.cell? ⟨w.heap.size + 1, 2, none⟩ = some (.int .i64 0) := by simp [World.cell?, hff]
      have f3 : wr.cell? ⟨w.heap.size + 1, 3, none⟩ = some (.int .i64 0) := by simp [World.cell?, hff]
      have z0 : wr.frozen? ⟨w.heap.size + 1, 0, none⟩ = false := by simp [World.frozen?, hff]
      have z1 : wr.frozen? ⟨w.heap.size + 1, 1, none⟩ = false := by simp [World.frozen?, hff]
      have z2 : wr.frozen? ⟨w.heap.size + 1, 2, none⟩ = false := by simp [World.frozen?, hff]
      have z3 : wr.frozen? ⟨w.heap.size + 1, 3, none⟩ = false := by simp [World.frozen?, hff]
      have fl := (Array.getElem?_eq_some_iff.1 hff).1
      have HBE := hid (HB2.out.trans (HB.out.mono HB2.out.size))
      clear hff HB
      go_wp2_with fail
      refine bodyPost_ret (v := .tuple #[.agg #[.int .i64 0, .int .i64 0, .int .i64 0, .int .i64 0], .bool true]) (by simp [results, Tryz.results32, go_sem, f0, f1, f2, f3]) rfl ⟨.inr ⟨fun p q h1 h2 h3 => by have h := HNO.out p q h1 h2 h1 h3; rw [HFE.out] at h; exact h, rfl⟩, ?_⟩
      exact (((HBE.out.setCell (p := ⟨w.heap.size + 1, 0, none⟩) (by simp) _).setCell (p := ⟨w.heap.size + 1, 1, none⟩) (by simp) _).setCell (p := ⟨w.heap.size + 1, 2, none⟩) (by simp) _).setCell (p := ⟨w.heap.size + 1, 3, none⟩) (by simp) _
theorem refLook_any {s : Lts} {n : Nat} (hr : s.Right) (hn : s.st = (n : Int)) (hn3 : n ≤ 300) {a : Option Addr} {b off c : Nat} {w : World} (hS : SlAt encE 3 w a b off s.es) (hc : s.es.length ≤ c) (hcm : c ≤ maxLen)
    {C : List Int} (hCl : C.length = n) {ca : Option Addr} {cb co cc : Nat} (hC : SlAt encI 1 w ca cb co C) {kd : Int} (hk1 : 1 ≤ kd) (hk3 : kd ≤ 3) :
    Calls Tryz.prog 32 #[.agg #[.int .i64 s.st, .int .i64 s.lb, .int .i64 s.s0, .slice a s.es.length c], .slice ca C.length cc, .int .i64 kd] w fun e w' => LookE s.norm n C (DL kd s.norm C) e ∧ Below w.heap.size w w' := by
  have hlb := hr.st0
  obtain ⟨lb, hlb'⟩ : ∃ lb : Nat, s.lb = (lb : Int) := ⟨s.lb.toNat, by omega⟩
  have hCf : C = fl n (fun i => C.getD i 0) := (list_flL hCl).symm
  rw [hCl]
  have h3 : kd = 1 ∨ kd = 2 ∨ kd = 3 := by omega
  rcases h3 with rfl | rfl | rfl
  · rw [dl1]; exact look1_any hr hn hn3 hlb' hS hc hcm hCl hCf hC
  · rw [dl2]; exact look2_any hr hn hn3 hlb' hS hc hcm hCl hCf hC
  · rw [dl3]; exact look3_any hr hn hn3 hlb' hS hc hcm hCl hCf hC
end Go.Proofs.YtffjcehopoaboaaGreatDoor

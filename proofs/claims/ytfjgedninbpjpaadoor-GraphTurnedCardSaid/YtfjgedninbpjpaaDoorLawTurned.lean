/-
  law7.GraphTurned.
-/
import Derived.Test.YtfjgedninbpjpaaDoorAlive
import Derived.Test.YtfjgedninbpjpaaDoorCode
import Derived.Test.YtfjgedninbpjpaaDoorPl7
import Derived.Test.YtfjgedninbpjpaaDoorRefSort
namespace Go.Proofs.YtfjgedninbpjpaaDoor
open Go.RowKit Pl

theorem eqlS (x y : S) (w : World) : (binOp .eql 49 (.agg #[.int .i64 x.1, .int .i64 x.2]) (.agg #[.int .i64 y.1, .int .i64 y.2])).run Tryd.prog w = .ok (.bool (decide (x = y))) w := by
  have u3 := Tryd.underlying3
  have a3 := Tryd.isAgg3
  have z3 := Tryd.sizeOf3
  have hS : Tryd.prog.underlying 49 = some (.struct (Tryd.prog.fieldsOf 49)) := by kernel_rfl
  have hp : Tryd.prog.stoodInHeld 49 = false := by kernel_rfl
  rw [run_eql_struct, show (10000 : Nat) = 9999 + 1 from rfl, run_equalIn_agg w 9999 49 _ _ hS hp]
  simp only [Program.fieldsOf, Tryd.underlying49]
  go_simp
  obtain ⟨x1, x2⟩ := x; obtain ⟨y1, y2⟩ := y
  by_cases h1 : x1 = y1 <;> by_cases h2 : x2 = y2 <;> simp [h1, h2]
theorem guardS : Tryd.prog.eqGuardType Tryd.prog.depth 49 = false := by kernel_rfl

theorem mem_take_succ {α : Type} {l : List α} {k : Nat} {x t : α} (hx : l[k]? = some x) [Decidable (t ∈ l.take (k + 1))] [Decidable (t ∈ l.take k)] [Decidable (x = t)] : decide (t ∈ l.take (k + 1)) = (decide (t ∈ l.take k) || decide (x = t)) := by
  rw [Bool.eq_iff_iff]
  simp only [decide_eq_true_eq, Bool.or_eq_true]
  rw [take_snoc hx, List.mem_append, List.mem_singleton]
  exact or_congr Iff.rfl eq_comm

theorem box_cellsT {w : World} {B : Nat} {x y z : Int} {v : Value} (h : w.heap[B]? = some (.cells #[.int .i64 x, .int .i64 y, .int .i64 z, v] 24 (0, 0))) :
    w.cell? ⟨B, 0, none⟩ = some (.int .i64 x) ∧ w.cell? ⟨B, 1, none⟩ = some (.int .i64 y) ∧ w.cell? ⟨B, 2, none⟩ = some (.int .i64 z) ∧ w.cell? ⟨B, 3, none⟩ = some v := by
  refine ⟨?_, ?_, ?_, ?_⟩ <;> simp [World.cell?, h]

set_option maxRecDepth 100000 in
set_option maxHeartbeats 8000000 in
theorem graphTurned_any {w : World} {p : Addr} (hE : Errs p w) {s : Lts} {a : Option Addr} {b off c : Nat} (hS : SlAt encE 3 w a b off s.es) :
    Calls Tryd.prog 13 #[.agg #[.int .i64 s.st, .int .i64 s.lb, .int .i64 s.s0, .slice a s.es.length c]] w fun e w' => e = .returned (.bool true) ∧ Below w.heap.size w w' := by
  have hB0 := (Below.refl w.heap.size w).alloc (Nat.le_refl _) (Obj.cells #[.int .i64 s.st, .int .i64 s.lb, .int .i64 s.s0, .slice a s.es.length c] 24)
  have hbx := heap_alloc_new w (Obj.cells #[.int .i64 s.st, .int .i64 s.lb, .int .i64 s.s0, .slice a s.es.length c] 24)
  have HE := Lib.hid (hE.below hB0); have HS := Lib.hid (hS.below hB0 (Nat.le_refl _)); have HB0 := Lib.hid hB0; have HBX := Lib.hid hbx
  clear hE hS hB0 hbx
  have fin : ∀ w1 : World, GErr 0 p w1 → Below w.heap.size w w1 → Calls Tryd.prog 26 #[] w1 fun e w' => e = .returned (.bool true) ∧ Below w.heap.size w w' := by
    intro w1 h1 h2
    refine (alive_any h1).mono ?_
    rintro e w' ⟨rfl, hB⟩
    exact ⟨rfl, h2.trans (hB.mono h2.size)⟩
  have FIN := Lib.hid fin
  clear fin
  by_cases h300 : 300 < s.es.length
  · have hi : (300 : Int) < (s.es.length : Int) := by omega
    go_enter Tryd.func13, Tryd.ntmps13
    go_wp2_with fail
    refine (FIN.out _ HE.out.sys HB0.out).mono ?_
    rintro e w1 ⟨rfl, hB⟩
    go_wp2
    go_ret
    exact ⟨rfl, hB⟩
  have hi : ¬ (300 : Int) < (s.es.length : Int) := by omega
  by_cases h40 : 40 < s.st
  · go_enter Tryd.func13, Tryd.ntmps13
    go_wp2_with fail
    refine (FIN.out _ HE.out.sys HB0.out).mono ?_
    rintro e w1 ⟨rfl, hB⟩
    go_wp2
    go_ret
    exact ⟨rfl, hB⟩
  by_cases hr : s.Right
  case neg =>
    go_enter Tryd.func13, Tryd.ntmps13
    go_wp2_with fail
    refine (new_no (c := c) hr HE.out.sys HS.out).mono ?_
    rintro e w1 ⟨v, rfl, hF, hB1⟩
    have HE1 := Lib.hid (HE.out.below hB1)
    have HB1 := Lib.hid (HB0.out.trans (hB1.mono (by simp)))
    have HF := Lib.hid hF
    obtain ⟨fb, rfl, _⟩ := hF.ex
    clear hB1
    go_wp2_with fail
    refine (alive_any HE1.out.sys).mono ?_
    rintro e w2 ⟨rfl, hB2⟩
    have HC := Lib.hid (code_at (HE1.out.below hB2) (HF.out.below hB2))
    have HB2 := Lib.hid (HB1.out.trans (hB2.mono HB1.out.size))
    clear hB2
    go_wp2_with fail
    refine HC.out.mono ?_
    rintro e w3 ⟨rfl, rfl⟩
    go_wp2
    go_ret
    exact ⟨rfl, HB2.out⟩
  case pos =>
  have hst := hr.st0
  obtain ⟨n, hn⟩ : ∃ n : Nat, s.st = (n : Int) := ⟨s.st.toNat, by omega⟩
  have HR := Lib.hid hr
  have hn60 : n ≤ 40 := by omega
  have HN := Lib.hid hn; have HST := Lib.hid hst
  clear hn hst hr
  go_enter Tryd.func13, Tryd.ntmps13
  go_wp2_with fail
  refine (new_ok (c := c) HR.out HE.out.sys HS.out).mono ?_
  rintro e w1 ⟨gb, rfl, hGr, hB1, _⟩
  have hbx1 := (hB1.block w.heap.size (by simp)).trans HBX.out
  have HE1 := Lib.hid (HE.out.below hB1); have HS1 := Lib.hid (HS.out.below hB1 (Nat.le_refl _)); have HGr := Lib.hid hGr; have HBX1 := Lib.hid hbx1
  have HB1 := Lib.hid (HB0.out.trans (hB1.mono (by simp)))
  clear hGr hB1 hbx1 HE HS HBX HB0
  go_wp2_with fail
  refine (getEdges_any HGr.out).mono ?_
  rintro e w2 ⟨v, rfl, hown, hB2⟩
  obtain ⟨la, lc, lbk, rfl, _, _, hsl, _⟩ := slAt_own lenE hown
  obtain ⟨L, hL⟩ : ∃ L, L = s.norm.es := ⟨_, rfl⟩
  rw [← hL] at hsl ⊢
  have hlL : L.length ≤ 300 := by rw [hL]; have := length_nf (lt := ltE) s.es; show (nf ltE s.es).length ≤ 300; omega
  have hg2 := HGr.out.below hB2
  have hs1 := HB1.out.size
  have HL := Lib.hid hL; have HSL := Lib.hid hsl; have HG2 := Lib.hid hg2; have HE2 := Lib.hid (HE1.out.below hB2); have HS2 := Lib.hid (HS1.out.below hB2 (Nat.le_refl _))
  have HBX2 := Lib.hid ((hB2.block w.heap.size (by have := (Array.getElem?_eq_some_iff.1 HBX1.out).1; omega)).trans HBX1.out)
  have HB2 := Lib.hid (HB1.out.trans (hB2.mono hs1))
  clear hown hsl hL hg2 hB2 HGr HE1 HS1 HBX1 HB1
  have hbw : ∀ wr, Below w2.heap.size w2 wr → wr.heap[w.heap.size]? = some (.cells #[.int .i64 s.st, .int .i64 s.lb, .int .i64 s.s0, .slice a s.es.length c] 24 (0, 0)) := fun wr h => (h.block _ (Array.getElem?_eq_some_iff.1 HBX2.out).1).trans HBX2.out
  have HBW := Lib.hid hbw
  clear hbw
  go_wp2_with fail
  go_loopw [7, 8, 9, 11, 13] (fun v7 _ _ _ _ wr => ∃ i : Nat, i ≤ L.length ∧ v7 = .int .i64 i ∧ Below w2.heap.size w2 wr)
    (fun v7 _ _ _ _ _ => L.length - (intOf v7).toNat)
  case atStart => exact ⟨0, Nat.zero_le _, rfl, Below.refl _ _⟩
  case round =>
    obtain ⟨i, hil, rfl, hB⟩ := hrel
    have HB := Lib.hid hB
    clear hB
    by_cases hlt : i < L.length
    · obtain ⟨x, hx⟩ := getElem?_of_lt hlt
      have hsl := HSL.out.below HB.out (Nat.le_refl _)
      obtain rfl := hsl.ad (by omega)
      have d0 := hsl.e0 hx; have d1 := hsl.e1 hx; have d2 := hsl.e2 hx
      simp only [Nat.zero_add] at d0 d1 d2
      have hxm : x ∈ s.norm.es := by rw [← HL.out]; exact List.mem_of_getElem? hx
      obtain ⟨x1, x2, x3⟩ := x
      simp only at d0 d1 d2
      have hmo : (x2, x3) ∈ s.norm.outs x1 := mem_outs.2 hxm
      have hmi : (x2, x1) ∈ s.norm.ins x3 := mem_inS.2 hxm
      have hlo := outs_len HG2.out.right x1
      have hli := ins_len HG2.out.right x3
      have hilt : (i : Int) < (L.length : Int) := by omega
      have HMO := Lib.hid hmo; have HMI := Lib.hid hmi; have HX := Lib.hid hx
      have ho := getOut_any (HG2.out.below HB.out) x1
      have HO := Lib.hid ho
      clear hsl hx hxm hmo hmi ho
      go_wp2_with fail
      refine HO.out.mono ?_
      rintro e w3 ⟨v, rfl, hown, hB3⟩
      obtain ⟨oa, oc, ob, rfl, _, _, hos, _⟩ := slAt_own lenS hown
      obtain ⟨O, hO⟩ : ∃ O, O = s.norm.outs x1 := ⟨_, rfl⟩
      rw [← hO] at hlo hos ⊢
      have HOS := Lib.hid hos; have HB3 := Lib.hid (HB.out.trans (hB3.mono HB.out.size))
      have HOD := Lib.hid hO
      clear hown hos hB3 HO hO d0 d1 d2
      go_wp2_with fail
      go_loopw [8, 11, 59] (fun va _ vi wr => ∃ r : Nat, r ≤ O.length ∧ vi = .int .i64 r ∧ va = .bool (decide (((x2, x3) : S) ∈ O.take r)) ∧ Below w3.heap.size w3 wr)
        (fun _ _ vi _ => O.length - (intOf vi).toNat)
      case atStart => exact ⟨0, Nat.zero_le _, rfl, by simp, Below.refl _ _⟩
      case round =>
        obtain ⟨r, hrl, rfl, rfl, hBr⟩ := hrel
        have HBR := Lib.hid hBr
        by_cases hlr : r < O.length
        · obtain ⟨y, hy⟩ := getElem?_of_lt hlr
          have hos := HOS.out.below hBr (Nat.le_refl _)
          obtain rfl := hos.ad (by omega)
          have c0 := hos.s0 hy; have c1 := hos.s1 hy
          simp only [Nat.zero_add] at c0 c1
          have hsl := HSL.out.below (HB3.out.trans (hBr.mono HB3.out.size)) (Nat.le_refl _)
          have d0 := hsl.e0 HX.out; have d1 := hsl.e1 HX.out; have d2 := hsl.e2 HX.out
          simp only [Nat.zero_add] at d0 d1 d2
          have hbl := hsl.lt (by omega)
          have hrlt : (r : Int) < (O.length : Int) := by omega
          obtain ⟨bb, hbb⟩ : ∃ bb, bb = decide (((x2, x3) : S) ∈ O.take r) := ⟨_, rfl⟩
          obtain ⟨cc, hcc⟩ : ∃ cc, cc = decide (y = ((x2, x3) : S)) := ⟨_, rfl⟩
          have hq : ∀ w, (binOp .eql 49 (.agg #[.int .i64 y.1, .int .i64 y.2]) (.agg #[.int .i64 x2, .int .i64 x3])).run Tryd.prog w = .ok (.bool cc) w := fun w => by rw [hcc]; exact eqlS y ((x2, x3) : S) w
          have hgd := guardS
          have hnx : decide (((x2, x3) : S) ∈ O.take (r + 1)) = (bb || cc) := by rw [mem_take_succ hy, hbb, hcc]
          rw [← hbb]
          have HNX := Lib.hid hnx
          clear hos hy hsl hBr hbb hcc hnx
          cases bb
          · go_wp2_with fail
            go_quiet (fail)
            go_wp2
            go_roundw
            case rel => exact ⟨r + 1, by omega, by go_num, by rw [HNX.out]; simp, bdrew (HBR.out.alloc HBR.out.size _)⟩
            case measure => simp [intOf]; omega
          · go_wp2_with fail
            go_quiet (fail)
            go_wp2
            go_roundw
            case rel => exact ⟨r + 1, by omega, by go_num, by rw [HNX.out]; simp, bdrew (HBR.out.alloc HBR.out.size _)⟩
            case measure => simp [intOf]; omega
        · obtain rfl : r = O.length := by omega
          have hall : decide (((x2, x3) : S) ∈ O.take O.length) = true := by rw [List.take_length]; exact decide_eq_true (by rw [HOD.out]; exact HMO.out)
          rw [hall]
          have HBW4 := Lib.hid (HB3.out.trans (hBr.mono HB3.out.size))
          clear hall hBr
          have hsl := HSL.out.below HBW4.out (Nat.le_refl _)
          have d0 := hsl.e0 HX.out; have d1 := hsl.e1 HX.out; have d2 := hsl.e2 HX.out
          simp only [Nat.zero_add] at d0 d1 d2
          have hi2 := getIn_any (HG2.out.below HBW4.out) x3
          have HI2 := Lib.hid hi2
          clear hsl hi2
          go_wp2_with fail
          refine HI2.out.mono ?_
          rintro e w5 ⟨v, rfl, hown, hB5⟩
          obtain ⟨ia, ic, ib, rfl, _, _, his, _⟩ := slAt_own lenS hown
          obtain ⟨I, hI⟩ : ∃ I, I = s.norm.ins x3 := ⟨_, rfl⟩
          rw [← hI] at hli his ⊢
          have HIS := Lib.hid his; have HB5 := Lib.hid (HBW4.out.trans (hB5.mono HBW4.out.size))
          have HID := Lib.hid hI
          clear hown his hB5 HI2 hI d0 d1 d2
          go_wp2_with fail
          go_loopw [9, 13, 88] (fun va _ vi wr => ∃ r : Nat, r ≤ I.length ∧ vi = .int .i64 r ∧ va = .bool (decide (((x2, x1) : S) ∈ I.take r)) ∧ Below w5.heap.size w5 wr)
            (fun _ _ vi _ => I.length - (intOf vi).toNat)
          case atStart => exact ⟨0, Nat.zero_le _, rfl, by simp, Below.refl _ _⟩
          case round =>
            obtain ⟨r, hrl, rfl, rfl, hBr⟩ := hrel
            have HBR := Lib.hid hBr
            by_cases hlr : r < I.length
            · obtain ⟨y, hy⟩ := getElem?_of_lt hlr
              have hos := HIS.out.below hBr (Nat.le_refl _)
              obtain rfl := hos.ad (by omega)
              have c0 := hos.s0 hy; have c1 := hos.s1 hy
              simp only [Nat.zero_add] at c0 c1
              have hsl := HSL.out.below (HB5.out.trans (hBr.mono HB5.out.size)) (Nat.le_refl _)
              have d0 := hsl.e0 HX.out; have d1 := hsl.e1 HX.out; have d2 := hsl.e2 HX.out
              simp only [Nat.zero_add] at d0 d1 d2
              have hbl := hsl.lt (by omega)
              have hrlt : (r : Int) < (I.length : Int) := by omega
              obtain ⟨bb, hbb⟩ : ∃ bb, bb = decide (((x2, x1) : S) ∈ I.take r) := ⟨_, rfl⟩
              obtain ⟨cc, hcc⟩ : ∃ cc, cc = decide (y = ((x2, x1) : S)) := ⟨_, rfl⟩
              have hq : ∀ w, (binOp .eql 49 (.agg #[.int .i64 y.1, .int .i64 y.2]) (.agg #[.int .i64 x2, .int .i64 x1])).run Tryd.prog w = .ok (.bool cc) w := fun w => by rw [hcc]; exact eqlS y ((x2, x1) : S) w
              have hgd := guardS
              have hnx : decide (((x2, x1) : S) ∈ I.take (r + 1)) = (bb || cc) := by rw [mem_take_succ hy, hbb, hcc]
              rw [← hbb]
              have HNX := Lib.hid hnx
              clear hos hy hsl hBr hbb hcc hnx
              cases bb
              · go_wp2_with fail
                go_quiet (fail)
                go_wp2
                go_roundw
                case rel => exact ⟨r + 1, by omega, by go_num, by rw [HNX.out]; simp, bdrew (HBR.out.alloc HBR.out.size _)⟩
                case measure => simp [intOf]; omega
              · go_wp2_with fail
                go_quiet (fail)
                go_wp2
                go_roundw
                case rel => exact ⟨r + 1, by omega, by go_num, by rw [HNX.out]; simp, bdrew (HBR.out.alloc HBR.out.size _)⟩
                case measure => simp [intOf]; omega
            · obtain rfl : r = I.length := by omega
              have hall : decide (((x2, x1) : S) ∈ I.take I.length) = true := by rw [List.take_length]; exact decide_eq_true (by rw [HID.out]; exact HMI.out)
              rw [hall]
              have HBW6 := Lib.hid (HB5.out.trans (hBr.mono HB5.out.size))
              clear hall hBr
              go_wp2
              go_roundw
              case rel => exact ⟨i + 1, by omega, by go_num, HBW6.out⟩
              case measure => simp [intOf]; omega
    · obtain rfl : i = L.length := by omega
      go_wp2_with fail
      go_loopw [14, 15, 16] (fun v14 _ _ wr => ∃ j : Nat, j ≤ s.es.length ∧ v14 = .int .i64 j ∧ Below w2.heap.size w2 wr)
        (fun v14 _ _ _ => s.es.length - (intOf v14).toNat)
      case atStart => exact ⟨0, Nat.zero_le _, rfl, HB.out⟩
      case round =>
        obtain ⟨j, hjl, rfl, hB⟩ := hrel
        have HBJ := Lib.hid hB
        obtain ⟨z0, z1, z2, z3⟩ := box_cellsT (HBW.out _ hB)
        clear hB
        by_cases hlt2 : j < s.es.length
        · obtain ⟨x, hx⟩ := getElem?_of_lt hlt2
          have hjlt : (j : Int) < (s.es.length : Int) := by omega
          have hxm : x ∈ L := by rw [HL.out]; exact (mem_nf stoE x s.es).2 (List.mem_of_getElem? hx)
          have HX := Lib.hid hx; have HXM := Lib.hid hxm
          clear hx hxm
          go_wp2_with fail
          go_loopw [15, 16] (fun v15 v16 wr => ∃ r : Nat, r ≤ L.length ∧ v16 = .int .i64 r ∧ v15 = .bool (decide (x ∈ L.take r)) ∧ Below w2.heap.size w2 wr)
            (fun _ v16 _ => L.length - (intOf v16).toNat)
          case atStart => exact ⟨0, Nat.zero_le _, rfl, by simp, HBJ.out⟩
          case round =>
            obtain ⟨r, hrl, rfl, rfl, hB⟩ := hrel
            have HBR := Lib.hid hB
            obtain ⟨z0, z1, z2, z3⟩ := box_cellsT (HBW.out _ hB)
            by_cases hlr : r < L.length
            · obtain ⟨y, hy⟩ := getElem?_of_lt hlr
              have hsl := HSL.out.below hB (Nat.le_refl _)
              obtain rfl := hsl.ad (by omega)
              have c0 := hsl.e0 hy; have c1 := hsl.e1 hy; have c2 := hsl.e2 hy
              simp only [Nat.zero_add] at c0 c1 c2
              have hss := HS2.out.below hB (Nat.le_refl _)
              obtain rfl := hss.ad (by omega)
              have d0 := hss.e0 HX.out; have d1 := hss.e1 HX.out; have d2 := hss.e2 HX.out
              have hrlt : (r : Int) < (L.length : Int) := by omega
              obtain ⟨bb, hbb⟩ : ∃ bb, bb = decide (x ∈ L.take r) := ⟨_, rfl⟩
              obtain ⟨cc, hcc⟩ : ∃ cc, cc = decide (y = x) := ⟨_, rfl⟩
              have hq : ∀ w, (binOp .eql 35 (.agg #[.int .i64 y.1, .int .i64 y.2.1, .int .i64 y.2.2]) (.agg #[.int .i64 x.1, .int .i64 x.2.1, .int .i64 x.2.2])).run Tryd.prog w = .ok (.bool cc) w := fun w => by rw [hcc]; exact eqlE y x w
              have hgd := guardE
              have hnx : decide (x ∈ L.take (r + 1)) = (bb || cc) := by rw [mem_take_succ hy, hbb, hcc]
              rw [← hbb]
              have HNX := Lib.hid hnx
              clear hsl hss hy hB hbb hcc hnx
              cases bb
              · go_wp2_with fail
                go_quiet (fail)
                go_wp2
                go_roundw
                case rel => exact ⟨r + 1, by omega, by go_num, by rw [HNX.out]; simp, bdrew HBR.out⟩
                case measure => simp [intOf]; omega
              · go_wp2_with fail
                go_quiet (fail)
                go_wp2
                go_roundw
                case rel => exact ⟨r + 1, by omega, by go_num, by rw [HNX.out]; simp, bdrew HBR.out⟩
                case measure => simp [intOf]; omega
            · obtain rfl : r = L.length := by omega
              have hall : decide (x ∈ L.take L.length) = true := by rw [List.take_length]; simp [HXM.out]
              rw [hall]
              clear hall hB
              go_wp2
              go_roundw
              case rel => exact ⟨j + 1, by omega, by go_num, HBR.out⟩
              case measure => simp [intOf]; omega
        · obtain rfl : j = s.es.length := by omega
          go_wp2_with fail
          go_loopw [6, 17] (fun v6 v17 wr => ∃ k : Nat, k ≤ n ∧ v17 = .int .i64 k ∧ v6 = .int .i64 (frK (fun x => x.1) L k : Int) ∧ Below w2.heap.size w2 wr)
            (fun _ v17 _ => n - (intOf v17).toNat)
          case atStart => exact ⟨0, Nat.zero_le _, rfl, by rw [frK_zero (fun x hx => by have := offB_false.1 (HG2.out.right.edges x (by rw [← HL.out]; exact hx)); omega)]; rfl, HBJ.out⟩
          case round =>
            obtain ⟨k, hk, rfl, rfl, hB⟩ := hrel
            have HBK := Lib.hid hB
            obtain ⟨z0, z1, z2, z3⟩ := box_cellsT (HBW.out _ hB)
            have hfl := frK_le (fun x => x.1) L k
            obtain ⟨m, hm⟩ : ∃ m, m = frK (fun x => x.1) L k := ⟨_, rfl⟩
            rw [← hm] at hfl ⊢
            have HM := Lib.hid hm
            have hoa := outs_add s.norm k
            rw [← HL.out, ← HM.out] at hoa
            have hol := outs_len HG2.out.right (k : Int)
            have ho := getOut_any (HG2.out.below hB) (k : Int)
            obtain ⟨ol, hol2⟩ : ∃ ol, ol = (s.norm.outs (k : Int)).length := ⟨_, rfl⟩
            rw [← hol2] at hoa hol
            have HO := Lib.hid ho; have HOA := Lib.hid hoa; have HOL := Lib.hid hol2
            clear hm hB hoa ho hol2
            by_cases hlt3 : k < n
            · have hks : (k : Int) < s.st := by have := HN.out; omega
              go_wp2_with fail
              refine HO.out.mono ?_
              rintro e w3 ⟨v, rfl, hown, hB3⟩
              obtain ⟨oa, oc, ob, rfl, _, _, _, _⟩ := slAt_own lenS hown
              rw [← HOL.out]
              have HB3 := Lib.hid (HBK.out.trans (hB3.mono HBK.out.size))
              clear hown hB3
              go_wp2
              go_roundw
              case rel => exact ⟨k + 1, by omega, by go_num, by rw [HOA.out]; go_num, HB3.out⟩
              case measure => simp [intOf]; omega
            · obtain rfl : k = n := by omega
              have hks : ¬ (k : Int) < s.st := by have := HN.out; omega
              have hml : m = L.length := by
                rw [HM.out]
                exact frK_all (fun x hx => by have := offB_false.1 (HG2.out.right.edges x (by rw [← HL.out]; exact hx)); have h2 := HN.out; have h3 : s.norm.st = s.st := rfl; omega)
              have HML := Lib.hid hml
              clear hml HOA HO HOL
              go_wp2_with fail
              go_loopw [18, 19] (fun v18 v19 wr => ∃ k2 : Nat, k2 ≤ k ∧ v19 = .int .i64 k2 ∧ v18 = .int .i64 (frK (fun x => x.2.2) (nf Pl.ltB L) k2 : Int) ∧ Below w2.heap.size w2 wr)
                (fun _ v19 _ => k - (intOf v19).toNat)
              case atStart => exact ⟨0, Nat.zero_le _, rfl, by rw [frK_zero (fun x hx => by have := offB_false.1 (HG2.out.right.edges x (by rw [← HL.out]; exact (mem_nf stoB x L).1 hx)); omega)]; rfl, HBK.out⟩
              case round =>
                obtain ⟨q, hqk, rfl, rfl, hB⟩ := hrel
                have HBQ := Lib.hid hB
                obtain ⟨z0, z1, z2, z3⟩ := box_cellsT (HBW.out _ hB)
                have hfl := frK_le (fun x => x.2.2) (nf Pl.ltB L) q
                have hnl := length_nf (lt := Pl.ltB) L
                obtain ⟨m2, hm2⟩ : ∃ m2, m2 = frK (fun x => x.2.2) (nf Pl.ltB L) q := ⟨_, rfl⟩
                rw [← hm2] at hfl ⊢
                have HM2 := Lib.hid hm2
                have hoa := ins_add s.norm q
                rw [← HL.out, ← HM2.out] at hoa
                have hol := ins_len HG2.out.right (q : Int)
                have ho := getIn_any (HG2.out.below hB) (q : Int)
                obtain ⟨ol, hol2⟩ : ∃ ol, ol = (s.norm.ins (q : Int)).length := ⟨_, rfl⟩
                rw [← hol2] at hoa hol
                have HO := Lib.hid ho; have HOA := Lib.hid hoa; have HOL := Lib.hid hol2
                clear hm2 hB hoa ho hol2
                by_cases hlt4 : q < k
                · have hqs : (q : Int) < s.st := by have := HN.out; omega
                  go_wp2_with fail
                  refine HO.out.mono ?_
                  rintro e w3 ⟨v, rfl, hown, hB3⟩
                  obtain ⟨oa, oc, ob, rfl, _, _, _, _⟩ := slAt_own lenS hown
                  rw [← HOL.out]
                  have HB3 := Lib.hid (HBQ.out.trans (hB3.mono HBQ.out.size))
                  clear hown hB3
                  go_wp2
                  go_roundw
                  case rel => exact ⟨q + 1, by omega, by go_num, by rw [HOA.out]; go_num, HB3.out⟩
                  case measure => simp [intOf]; omega
                · obtain rfl : q = k := by omega
                  have hqs : ¬ (q : Int) < s.st := by have := HN.out; omega
                  have hml2 : m2 = L.length := by
                    rw [HM2.out, ← nfB_len (l := L) (by rw [HL.out]; exact HG2.out.srt)]
                    exact frK_all (fun x hx => by have := offB_false.1 (HG2.out.right.edges x (by rw [← HL.out]; exact (mem_nf stoB x L).1 hx)); have h2 := HN.out; have h3 : s.norm.st = s.st := rfl; omega)
                  have e1 : ((m : Int) == (L.length : Int)) = true := by rw [HML.out]; simp
                  have e2 : ((m2 : Int) == (L.length : Int)) = true := by rw [hml2]; simp
                  have HBT := Lib.hid (HB2.out.trans (HBQ.out.mono HB2.out.size))
                  clear hml2 HOA HO HOL
                  go_wp2_with fail
                  refine (FIN.out _ (HE2.out.below HBQ.out).sys HBT.out).mono ?_
                  rintro e w9 ⟨rfl, hB9⟩
                  have HB9 := Lib.hid hB9
                  clear hB9
                  go_wp2
                  go_ret
                  exact ⟨rfl, HB9.out⟩
end Go.Proofs.YtfjgedninbpjpaaDoor

/-
  weak.Saturate.
-/
import Derived.Test.YtdhloijdefnkpaaGreatDoorGWkQ
namespace Go.Proofs.YtdhloijdefnkpaaGreatDoor
open Go.RowKit Pl

theorem KW.size3 {w3 wr : World} {O : Nat} {st lb s0 : Int} {v : Value} {es : List E} (h : KW w3 wr O st lb s0 v es) : w3.heap.size ≤ wr.heap.size := by
  have hl := h.lt
  refine Nat.le_of_not_lt (fun hc => ?_)
  by_cases e : w3.heap.size - 1 = O
  · have := (Array.getElem?_eq_some_iff.1 h.oo).1; omega
  · have h1 := h.oth (w3.heap.size - 1) (by omega) e
    rw [Array.getElem?_eq_none (by omega), Array.getElem?_eq_getElem (by omega)] at h1
    cases h1
/-- What Saturate answers of a right system. -/
def SatPost (s : Lts) (n lb : Nat) (pe : Addr) (w : World) (e : Ending) (w' : World) : Prop :=
  ∃ K, KOk s n lb K ∧ Below w.heap.size w w' ∧ (((satE n lb K).length ≤ 10000 ∧ ∃ ve, e = .returned (.tuple #[.agg #[.int .i64 n, .int .i64 s.lb, .int .i64 s.s0, ve], .nilIface]) ∧ w'.ownsRow w.heap.size 35 3 ve (satE n lb K).length ((satE n lb K).flatMap encE)) ∨
    (10000 < (satE n lb K).length ∧ ∃ v, e = .returned (.tuple #[.agg #[.int .i64 0, .int .i64 0, .int .i64 0, .slice none 0 0], v]) ∧ FaultAt w' v weakName (.iface 285 (.pointer (some pe)))))

set_option maxRecDepth 100000 in
set_option maxHeartbeats 16000000 in
theorem satYes_any {p pe : Addr} {s : Lts} {n lb : Nat} (hr : s.Right) (hn : s.st = (n : Int)) (hlb : s.lb = (lb : Int)) (h300 : n ≤ 300) {a : Option Addr} {b off c : Nat} {w : World} (hG : WkErr p w) (hGE : GErr 0 pe w) (hT : Tab w) (hS : SlAt encE 3 w a b off s.es) :
    Calls Tryz.prog 12 #[.agg #[.int .i64 s.st, .int .i64 s.lb, .int .i64 s.s0, .slice a s.es.length c]] w (SatPost s n lb pe w) := by
  have hst := hr.st0
  have hlb1 : lb ≤ 201 := by omega
  have hB0 := ((Below.refl w.heap.size w).alloc (Nat.le_refl _) (Obj.cells #[.int .i64 s.st, .int .i64 s.lb, .int .i64 s.s0, .slice a s.es.length c] 24)).alloc (by simp) (Obj.cells #[.int .i64 0, .int .i64 0, .int .i64 0, .slice none 0 0] 24)
  have hX0 := (Below.heap_alloc (w.alloc (Obj.cells #[.int .i64 s.st, .int .i64 s.lb, .int .i64 s.s0, .slice a s.es.length c] 24)) (Obj.cells #[.int .i64 0, .int .i64 0, .int .i64 0, .slice none 0 0] 24) w.heap.size (by simp)).trans (heap_alloc_new w _)
  have hR0 := heap_alloc_new (w.alloc (Obj.cells #[.int .i64 s.st, .int .i64 s.lb, .int .i64 s.s0, .slice a s.es.length c] 24)) (Obj.cells #[.int .i64 0, .int .i64 0, .int .i64 0, .slice none 0 0] 24)
  rw [show (w.alloc (Obj.cells #[.int .i64 s.st, .int .i64 s.lb, .int .i64 s.s0, .slice a s.es.length c] 24)).heap.size = w.heap.size + 1 by simp] at hR0
  have HMD := Lib.hid (madeW_any (c := c) hr hn h300 (hG.below hB0) (hS.below hB0 (Nat.le_refl _)))
  obtain ⟨el, hel⟩ : ∃ el, el = s.es.length := ⟨_, rfl⟩
  rw [hn, ← hel] at HMD hB0 hX0 hR0 ⊢
  have HB0 := Lib.hid hB0; have HR0 := Lib.hid hR0; have HX0 := Lib.hid hX0; have HR := Lib.hid hr; have HN := Lib.hid hn; have HLB := Lib.hid hlb; have HT := Lib.hid hT; have HGE := Lib.hid hGE
  clear hG hS hB0 hR0 hX0 hr hn hlb hT hel hGE hst
  go_enter Tryz.func12, Tryz.ntmps12
  go_wp2_with fail
  refine HMD.out.mono ?_
  rintro e w1 ⟨xb, gb, sb, F, rfl, hX, hxb, hB1⟩
  have hb1 := HB0.out.trans (hB1.mono (by simp; omega))
  have hr1 := (hB1.block (w.heap.size + 1) (by simp)).trans HR0.out
  have hx1 := (hB1.block w.heap.size (by simp; omega)).trans HX0.out
  have hrl1 := (Array.getElem?_eq_some_iff.1 hr1).1
  obtain ⟨x0, x1, x2, x3, x4⟩ := sysC hx1
  have HX := Lib.hid hX; have HB1 := Lib.hid hb1; have HR1 := Lib.hid hr1
  clear hX hxb hB1 hb1 hr1 hx1 HMD HB0 HR0 HX0
  go_wp2_with fail
  obtain ⟨P0, hP0⟩ : ∃ P0 : Obj, P0 = Obj.cells #[.pointer (some ⟨xb, 0, none⟩)] 57 (0, 0) := ⟨_, rfl⟩
  have ho2 := heap_alloc_new (w1.alloc (Obj.cells #[.pointer (some ⟨xb, 0, none⟩)] 57)) (Obj.cells #[.int .i64 n, .int .i64 s.lb, .int .i64 s.s0, .slice none 0 0] 24)
  rw [show (w1.alloc (Obj.cells #[.pointer (some ⟨xb, 0, none⟩)] 57)).heap.size = w1.heap.size + 1 by simp] at ho2
  have hp2 := (Below.heap_alloc (w1.alloc (Obj.cells #[.pointer (some ⟨xb, 0, none⟩)] 57)) (Obj.cells #[.int .i64 n, .int .i64 s.lb, .int .i64 s.s0, .slice none 0 0] 24) w1.heap.size (by simp)).trans (heap_alloc_new w1 _)
  have hb12 := ((Below.refl w1.heap.size w1).alloc (Nat.le_refl _) (Obj.cells #[.pointer (some ⟨xb, 0, none⟩)] 57)).alloc (by simp) (Obj.cells #[.int .i64 n, .int .i64 s.lb, .int .i64 s.s0, .slice none 0 0] 24)
  have hs2 : ((w1.alloc (Obj.cells #[.pointer (some ⟨xb, 0, none⟩)] 57)).alloc (Obj.cells #[.int .i64 n, .int .i64 s.lb, .int .i64 s.s0, .slice none 0 0] 24)).heap.size = w1.heap.size + 2 := by simp
  obtain ⟨W2, hW2⟩ : ∃ W2, W2 = (w1.alloc (Obj.cells #[.pointer (some ⟨xb, 0, none⟩)] 57)).alloc (Obj.cells #[.int .i64 n, .int .i64 s.lb, .int .i64 s.s0, .slice none 0 0] 24) := ⟨_, rfl⟩
  rw [← hW2] at ho2 hp2 hb12 hs2
  rw [← hW2]
  have hX2 := HX.out.call hb12
  obtain ⟨bk, hbk, hbits⟩ := hX2.sil.ex
  have hxp2 := (Array.getElem?_eq_some_iff.1 hp2).1
  have hena : EndAt W2 n (wds n) 32 (.pointer (some ⟨w1.heap.size, 0, none⟩)) F bk := by
    refine ⟨fun t ht => (hbits t (List.mem_range.2 ht)).2.2, fun V hV t ht => satFn_any (xb := xb) (sb := sb) (n := n) (by have h := (hV.block w1.heap.size hxp2).trans hp2; simp [World.cell?, h]) (hX2.call hV).cells.2.1 ?_ ht⟩
    have h := (hbk.of_block (hV.block sb hbk.lt)).cell ht
    rw [if_pos (List.mem_range.2 ht)] at h
    exact h
  have hb2w := HB1.out.trans (hb12.mono HB1.out.size)
  refine (ends_any hX2 HLB.out (show n ≤ 1000 by omega) (enters_of Tryz.func32 (by kernel_rfl) rfl) hena (HT.out.below hb2w)).mono ?_
  rintro e w3 ⟨tb3, R, rfl, htab, htlo, hB3, hR⟩
  have hoo3 := (hB3.block (w1.heap.size + 1) (by omega)).trans ho2
  have hr3 := (hB3.block (w.heap.size + 1) (by omega)).trans ((hb12.block (w.heap.size + 1) hrl1).trans HR1.out)
  have hb3 := hb2w.trans (hB3.mono hb2w.size)
  have hs3 := hB3.size
  obtain ⟨O, hO⟩ : ∃ O, O = w1.heap.size + 1 := ⟨_, rfl⟩
  rw [← hO] at hoo3 ⊢
  obtain ⟨K, hK⟩ : ∃ K : Nat → Nat → Nat → Bool, K = fun p l q => getO (R p l) q := ⟨_, rfl⟩
  have HKO : RowKit.Hid (KOk s n lb K) := Lib.hid (by rw [hK]; exact kOk_of_ends HR.out HN.out HX.out.tr hR)
  have hOl3 : O < w3.heap.size := by omega
  have hRO : w.heap.size + 1 < O := by omega
  have HBW : RowKit.Hid (∀ wx, Below O w3 wx → Below w.heap.size w wx) := Lib.hid (fun wx hx => hb3.trans (hx.mono (by omega)))
  obtain ⟨rbk, hrw, hwr⟩ := htab.ex
  have HROW : RowKit.Hid (∀ wr v es, KW w3 wr O n s.lb s.s0 v es → ∀ i, i < n → wr.cell? ⟨tb3, i, none⟩ = some (.slice (some ⟨rbk i, 0, none⟩) lb lb) ∧ tb3 < wr.heap.size ∧ rbk i < wr.heap.size ∧ ∀ r, r < lb → ∃ xv, wr.cell? ⟨rbk i, r, none⟩ = some xv ∧ Calls Tryz.prog 30 #[xv] wr (fun e w' => ∃ lv, e = .returned lv ∧ w'.ownsRow wr.heap.size 3 1 lv (intsOf (idsN (K i r) n)).length ((intsOf (idsN (K i r) n)).flatMap encI) ∧ Below wr.heap.size wr w')) := Lib.hid (fun wr v es hkw i hi => by
    have hks := hkw.keepS hoo3
    have h1 := hks.row hrw htab.lt (by decide)
    have h2 := h1.cell hi
    rw [if_pos hi] at h2
    have h3 := (hwr i hi).keptS hks
    obtain ⟨bq, h4, _⟩ := id h3.ex
    refine ⟨h2, h1.lt, h4.lt, fun r hr => ?_⟩
    obtain ⟨gb, hg0, hg1⟩ := h3.at hr
    refine ⟨_, hg0, ?_⟩
    have h5 := idsO_any (fun G e => (hg1 G e).1) (ends_rng HR.out HN.out HX.out.tr hi (hR i r hi hr)) (by omega) (HT.out.below (HBW.out _ hkw.bel))
    rw [hK]
    exact h5)
  have hk3 : KW w3 w3 O n s.lb s.s0 (.slice none 0 0) (preE n lb K 0) := ⟨fun _ _ _ => rfl, Below.refl _ _, hoo3, World.ownsRow_nil _ _ _ _, hOl3⟩
  have HK3 := Lib.hid hk3; have HR3 := Lib.hid hr3; have HGB : RowKit.Hid (∀ wx, Below O w3 wx → GErr 0 pe wx) := Lib.hid (fun wx hx => HGE.out.below (HBW.out _ hx))
  have hn3 : n ≤ 1000 := by omega
  clear hk3 hr3 hoo3 hb3 hs3 hO hK hrw hwr htab htlo hR hB3 hb2w hena hbits hbk hX2 hxp2 hW2 hs2 hb12 hp2 ho2 hP0 P0 HR1 HB1 HGE x0 x1 x2 x3 x4 hrl1
  go_wp2_with fail
  go_loopw [3, 7, 8, 9, 10, 12, 35] (fun _ _ _ _ _ _ v35 wx => ∃ (i : Nat) (v : Value), v35 = .int .i64 i ∧ i ≤ n ∧ KW w3 wx O n s.lb s.s0 v (preE n lb K i) ∧ (preE n lb K i).length ≤ 10000) (fun _ _ _ _ _ _ v35 _ => n - (intOf v35).toNat)
  case atStart => exact ⟨0, _, rfl, Nat.zero_le _, HK3.out, Nat.zero_le _⟩
  case round =>
    obtain ⟨i, v, rfl, hi, hkw, hle⟩ := hrel
    have HKW := Lib.hid hkw
    clear HK3 hkw
    by_cases hin : i < n
    · obtain ⟨a0, al, rl, _⟩ := HROW.out _ _ _ HKW.out i hin
      have hiI : (i : Int) < (n : Int) := by omega
      obtain ⟨P, hP⟩ : ∃ P, P = preE n lb K i := ⟨_, rfl⟩
      rw [← hP] at HKW hle
      have HP := Lib.hid hP
      clear hP
      go_wp2_with fail
      clear a0 al rl
      go_loopw [3, 9, 10, 12, 42] (fun _ _ _ _ v42 wx => ∃ (r : Nat) (v : Value), v42 = .int .i64 r ∧ r ≤ lb ∧ KW w3 wx O n s.lb s.s0 v (P ++ (List.range r).flatMap (labE n K i)) ∧ (P ++ (List.range r).flatMap (labE n K i)).length ≤ 10000) (fun _ _ _ _ v42 _ => lb - (intOf v42).toNat)
      case atStart => exact ⟨0, _, rfl, Nat.zero_le _, by simpa using HKW.out, by simpa using hle⟩
      case round =>
        obtain ⟨r, v, rfl, hr, hkw, hle2⟩ := hrel
        have HKW2 := Lib.hid hkw
        clear HKW hkw
        by_cases hrl : r < lb
        · obtain ⟨_, _, rl, hids⟩ := HROW.out _ _ _ HKW2.out i hin
          obtain ⟨xv, hx0, hid⟩ := hids r hrl
          have hrI : (r : Int) < (lb : Int) := by omega
          have HID := Lib.hid hid
          have HPL : RowKit.Hid (∀ q, ((P ++ (List.range r).flatMap (labE n K i)) ++ (labE n K i r).take q).length ≤ (satE n lb K).length) := Lib.hid (fun q => by rw [HP.out]; exact pre_le hin hrl)
          have HFS : RowKit.Hid (P ++ (List.range (r + 1)).flatMap (labE n K i) = (P ++ (List.range r).flatMap (labE n K i)) ++ labE n K i r) := Lib.hid (by rw [flat_succ, List.append_assoc])
          obtain ⟨P2, hP2⟩ : ∃ P2, P2 = P ++ (List.range r).flatMap (labE n K i) := ⟨_, rfl⟩
          rw [← hP2] at HKW2 hle2 HPL HFS
          clear hP2 hid hids
          go_wp2_with fail
          refine HID.out.mono ?_
          rintro e wq ⟨lv, rfl, hown, hBq⟩
          obtain ⟨L, hL⟩ : ∃ L, L = idsN (K i r) n := ⟨_, rfl⟩
          rw [← hL] at hown
          obtain ⟨ml, hml⟩ : ∃ ml, ml = L.length := ⟨_, rfl⟩
          rw [intsOf_len, ← hml] at hown
          have HLE : RowKit.Hid (labE n K i r = L.map (fun q : Nat => ((i : Int), (r : Int), (q : Int)))) := Lib.hid (by rw [hL]; rfl)
          have hmln : ml ≤ n := by rw [hml, hL]; exact idsN_le _ _
          obtain ⟨B3, hB3e⟩ : ∃ B3, B3 = wr.heap.size := ⟨_, rfl⟩
          have hOB3 : O < B3 := by have := HKW2.out.bel.size; rw [hB3e]; have := World.block_lt_of_cell? _ _ HKW2.out.cells.1; exact this
          have hkq := HKW2.out.call hBq
          rw [← hB3e] at hown
          obtain ⟨la, lc, lb2, rfl, _, _, hls, _⟩ := slAt_own lenI (by rw [intsOf_len, ← hml]; exact hown)
          rw [intsOf_len, ← hml] at hown ⊢
          have HML := Lib.hid hml; have HKQ := Lib.hid hkq; have HOW := Lib.hid hown
          clear hL hml hB3e hkq hown hls hBq HKW2 HID hx0 rl
          go_wp2_with fail
          go_loopw [3, 12, 50] (fun _ _ v50 wx => ∃ (q : Nat) (v : Value), v50 = .int .i64 q ∧ q ≤ ml ∧ KW w3 wx O n s.lb s.s0 v (P2 ++ (labE n K i r).take q) ∧ (P2 ++ (labE n K i r).take q).length ≤ 10000 ∧ wx.ownsRow B3 3 1 (.slice la ml lc) ml ((intsOf L).flatMap encI)) (fun _ _ v50 _ => ml - (intOf v50).toNat)
          case atStart => exact ⟨0, _, rfl, Nat.zero_le _, by simpa using HKQ.out, by simpa using hle2, HOW.out⟩
          case round =>
            obtain ⟨q, v, rfl, hq, hkw, hle3, hown⟩ := hrel
            have HKW3 := Lib.hid hkw; have HOW3 := Lib.hid hown
            clear hkw hown HKQ HOW
            by_cases hqm : q < ml
            · obtain ⟨t, ht⟩ := getElem?_of_lt (xs := L) (i := q) (by rw [← HML.out]; exact hqm)
              obtain ⟨la3, lc3, lb3, hlc, _, _, hls, _⟩ := slAt_own lenI (by rw [intsOf_len, ← HML.out]; exact HOW3.out)
              simp only [Value.slice.injEq] at hlc
              rw [← hlc.1] at hls
              clear hlc
              obtain rfl := hls.ad (by rw [intsOf_len, ← HML.out]; omega)
              have l0 := hls.ci (i := q) (x := (t : Int)) (by unfold intsOf; rw [List.getElem?_map, ht]; rfl)
              simp only [Nat.zero_add] at l0
              have ll := hls.lt (by rw [intsOf_len, ← HML.out]; omega)
              have hqI : (q : Int) < (ml : Int) := by omega
              have HTK : RowKit.Hid ((labE n K i r).take (q + 1) = (labE n K i r).take q ++ [((i : Int), (r : Int), (t : Int))]) := Lib.hid (take_snoc (by rw [HLE.out, List.getElem?_map, ht]; rfl))
              have hpl := HPL.out (q + 1)
              rw [HTK.out, ← List.append_assoc, List.length_append] at hpl
              simp only [List.length_cons, List.length_nil] at hpl
              have HAS : RowKit.Hid (P2 ++ (labE n K i r).take (q + 1) = (P2 ++ (labE n K i r).take q) ++ [((i : Int), (r : Int), (t : Int))]) := Lib.hid (by rw [HTK.out, List.append_assoc])
              obtain ⟨Q, hQ⟩ : ∃ Q, Q = P2 ++ (labE n K i r).take q := ⟨_, rfl⟩
              rw [← hQ] at HKW3 hle3 hpl HAS
              have hown3 := HKW3.out.own
              obtain ⟨ta, tc, tbb, rfl, _, _, _, _⟩ := slAt_own lenE hown3
              obtain ⟨ql, hql⟩ : ∃ ql, ql = Q.length := ⟨_, rfl⟩
              have hkw5 := HKW3.out
              rw [← hql] at hkw5 hle3 hpl
              obtain ⟨o0, o1, o2, o3, of3⟩ := hkw5.cells
              have HKW5 := Lib.hid hkw5
              have hOlr : O < wr.heap.size := World.block_lt_of_cell? _ _ o0
              have HQL := Lib.hid hql
              clear hQ hown3 hql hkw5 hls HKW3 HTK
              by_cases h10 : ql = 10000
              · have hge := HGB.out _ HKW5.out.bel
                have g0 := hge.cell; have gl := hge.lt
                have hr6 := (HKW5.out.oth (w.heap.size + 1) (by omega) (by omega)).trans HR3.out
                obtain ⟨⟨z0, z1, z2, z3, z4⟩, f0, f1, f2, f3⟩ := sysZ hr6
                have HBX := Lib.hid (HBW.out _ HKW5.out.bel)
                have hws := HBX.out.size
                have hd : (ql : Int) = 10000 := by omega
                have h11 : 10000 < (satE n lb K).length := by omega
                clear hge
                clear z0 z1 z2 z3 z4 f0 f1 f2 f3
                have HR6 := Lib.hid hr6
                clear hr6
                go_wp2_with fail
                refine (faultNew_any _ _ _ _).mono ?_
                rintro e w9 ⟨rfl, hw9⟩
                have hr9 : w9.heap[w.heap.size + 1]? = some (.cells #[.int .i64 0, .int .i64 0, .int .i64 0, .slice none 0 0] 24 (0, 0)) := by rw [hw9]; exact (Below.heap_alloc wr _ _ (by omega)).trans HR6.out
                have hf9 : w9.heap[wr.heap.size]? = some (.cells #[.string weakName, .int .i64 0, .int .i64 0, .iface 285 (.pointer (some pe))] 76 (0, 0)) := by rw [hw9]; exact heap_alloc_new wr _
                have hb9 : Below w.heap.size w w9 := by rw [hw9]; exact HBX.out.alloc hws _
                obtain ⟨⟨z0, z1, z2, z3, z4⟩, f0, f1, f2, f3⟩ := sysZ hr9
                have HF9 := Lib.hid hf9; have HB9 := Lib.hid hb9
                have hne : wr.heap.size ≠ w.heap.size + 1 := by omega
                clear hw9 hr9 hf9 hb9 o0 o1 o2 o3 of3 l0 ll g0 gl HR6
                go_wp2_with fail
                refine bodyPost_ret (v := .tuple #[.agg #[.int .i64 0, .int .i64 0, .int .i64 0, .slice none 0 0], .iface 73 (.pointer (some ⟨wr.heap.size, 0, none⟩))]) (by simp [results, Tryz.results12, go_sem, z0, z1, z2, z3]) rfl ⟨K, HKO.out, ?_, .inr ⟨h11, _, rfl, ⟨wr.heap.size, rfl, ?_⟩⟩⟩
                · exact (((HB9.out.setCell (by show w.heap.size ≤ w.heap.size + 1; omega) _).setCell (by show w.heap.size ≤ w.heap.size + 1; omega) _).setCell (by show w.heap.size ≤ w.heap.size + 1; omega) _).setCell (by show w.heap.size ≤ w.heap.size + 1; omega) _
                · rw [Below.heap_setCell _ _ _ _ hne, Below.heap_setCell _ _ _ _ hne, Below.heap_setCell _ _ _ _ hne, Below.heap_setCell _ _ _ _ hne]; exact HF9.out
              · have hown2 := HKW5.out.own.alloc (Obj.cells #[.int .i64 (i : Int), .int .i64 (r : Int), .int .i64 (t : Int)] 35)
                rw [← HQL.out] at hown2
                have hBz : w3.heap.size ≤ (wr.alloc (Obj.cells #[.int .i64 (i : Int), .int .i64 (r : Int), .int .i64 (t : Int)] 35)).heap.size := by have h1 := HKW5.out.size3; simp; omega
                have HOWN2 := Lib.hid hown2; have HBZ := Lib.hid hBz
                have HOWA := Lib.hid (HOW3.out.alloc (Obj.cells #[.int .i64 (i : Int), .int .i64 (r : Int), .int .i64 (t : Int)] 35))
                have hd : ¬ (ql : Int) = 10000 := by omega
                have hqll : ql ≤ 9999 := by omega
                clear hown2 hBz
                go_wp2_with (at_builtin; go_must (refine wpList_app1 rfl _ _ _ rfl rowE (Below.refl _ _) HBZ.out (by rfl) HOWN2.out ⟨wr.heap.size, 0, none⟩ 1 1 [.int .i64 (i : Int), .int .i64 (r : Int), .int .i64 (t : Int)] rfl rfl (newV (e := ((i : Int), (r : Int), (t : Int))) (heap_alloc_new wr _)) (by simp [Value.oneCell']) (by decide) (by omega) (by unfold maxLen; omega) ?_); intro g2 cap2 w7 hown7 _ hg7; have kp := KW.keepc (HKW5.out.call ((Below.refl _ _).alloc (Nat.le_refl _) _)) hg7; have kp0 := kp.1; have kp1 := kp.2; have kp2 : O < w7.heap.size := (World.block_lt_of_cell? _ _ kp0); clear kp)
                have h8 := KW.setEs (v' := .slice (some ⟨g2, 0, none⟩) (ql + 1) cap2) (es' := Q ++ [((i : Int), (r : Int), (t : Int))]) (HKW5.out.call ((Below.refl _ _).alloc (Nat.le_refl _) _)) (by rw [List.length_append, List.flatMap_append, ← HQL.out]; exact hown7) hg7
                have h9 := own_set1 (own_block HOWA.out (w' := w7) (fun g hg => hg7.block g (HOWA.out.lt g hg).2 (own_apart HOWA.out HOWN2.out (by decide) hg))) (p := ⟨O, 3, none⟩) (fun g hg => by have h1 := (HOWA.out.lt g hg).1; show g ≠ O; omega) (.slice (some ⟨g2, 0, none⟩) (ql + 1) cap2)
                have H8 := Lib.hid h8; have H9 := Lib.hid h9
                clear h8 h9 hown7 hg7 kp0 kp1 kp2
                go_roundw
                case rel => exact ⟨q + 1, _, by go_num, by omega, by rw [HAS.out]; exact H8.out, by rw [HAS.out, List.length_append, ← HQL.out]; simp only [List.length_cons, List.length_nil]; omega, own_mono H9.out (Nat.le_refl _)⟩
                case measure => simp [intOf]; omega
            · obtain rfl : ml = q := by omega
              have hkw4 : KW w3 wr O n s.lb s.s0 v (P ++ (List.range (r + 1)).flatMap (labE n K i)) := by
                have h := HKW3.out
                rw [List.take_of_length_le (by rw [HLE.out, List.length_map, ← HML.out]; exact Nat.le_refl _), ← HFS.out] at h
                exact h
              rw [List.take_of_length_le (by rw [HLE.out, List.length_map, ← HML.out]; exact Nat.le_refl _), ← HFS.out] at hle3
              have HKW4 := Lib.hid hkw4
              clear hkw4 HKW3 HOW3
              go_wp2_with fail
              go_roundw
              case rel => exact ⟨r + 1, v, by go_num, by omega, HKW4.out, hle3⟩
              case measure => simp [intOf]; omega
        · obtain rfl : lb = r := by omega
          have hkw4 : KW w3 wr O n s.lb s.s0 v (preE n lb K (i + 1)) := by rw [preE_succ, ← HP.out]; exact HKW2.out
          have hle4 : (preE n lb K (i + 1)).length ≤ 10000 := by rw [preE_succ, ← HP.out]; exact hle2
          have HKW4 := Lib.hid hkw4
          clear hkw4 HKW2 hle2
          go_wp2_with fail
          go_roundw
          case rel => exact ⟨i + 1, v, by go_num, by omega, HKW4.out, hle4⟩
          case measure => simp [intOf]; omega
    · obtain rfl : n = i := by omega
      rw [preE_all] at HKW hle
      obtain ⟨ta, tc, tbb, rfl, _, _, htsl, _⟩ := slAt_own lenE HKW.out.own
      obtain ⟨tl, htl⟩ : ∃ tl, tl = (satE n lb K).length := ⟨_, rfl⟩
      have ho6 := HKW.out.oo
      have hr6 := (HKW.out.oth (w.heap.size + 1) (by omega) (by omega)).trans HR3.out
      rw [← htl] at ho6
      obtain ⟨y0, y1, y2, y3, y4⟩ := sysC ho6
      obtain ⟨⟨z0, z1, z2, z3, z4⟩, f0, f1, f2, f3⟩ := sysZ hr6
      have HTL := Lib.hid htl
      have hgs : ∀ g, (Value.slice ta tl tc).ownBlock = some g → g ≠ w.heap.size + 1 := fun g hg => by
        have hw := HKW.out.own
        rw [← htl] at hw
        have h1 := (hw.lt g hg).1
        omega
      have HGS := Lib.hid hgs
      have HBX := Lib.hid (HBW.out _ HKW.out.bel)
      clear htsl ho6 hr6 htl hgs
      go_wp2_with fail
      refine bodyPost_ret (v := .tuple #[.agg #[.int .i64 n, .int .i64 s.lb, .int .i64 s.s0, .slice ta tl tc], .nilIface]) (by simp [results, Tryz.results12, go_sem, z0, z1, z2, z3]) rfl ⟨K, HKO.out, ?_, .inl ⟨hle, _, rfl, ?_⟩⟩
      · exact (((HBX.out.setCell (by show w.heap.size ≤ w.heap.size + 1; omega) _).setCell (by show w.heap.size ≤ w.heap.size + 1; omega) _).setCell (by show w.heap.size ≤ w.heap.size + 1; omega) _).setCell (by show w.heap.size ≤ w.heap.size + 1; omega) _
      · have hw := HKW.out.own
        rw [← HTL.out] at hw ⊢
        exact own_mono (own_set1 (own_set1 (own_set1 (own_set1 hw (p := ⟨w.heap.size + 1, 0, none⟩) (fun g hg => HGS.out g hg) _) (p := ⟨w.heap.size + 1, 1, none⟩) (fun g hg => HGS.out g hg) _) (p := ⟨w.heap.size + 1, 2, none⟩) (fun g hg => HGS.out g hg) _) (p := ⟨w.heap.size + 1, 3, none⟩) (fun g hg => HGS.out g hg) _) (by omega)

theorem FaultW.setR {w : World} {p : Addr} {v : Value} {R : Nat} {c : Array Value} (h : FaultW w p v) (hR : w.heap[R]? = some (.cells c 24 (0, 0))) (x0 x1 x2 x3 : Value) :
    FaultW ((((w.setCell ⟨R, 0, none⟩ x0).setCell ⟨R, 1, none⟩ x1).setCell ⟨R, 2, none⟩ x2).setCell ⟨R, 3, none⟩ x3) p v := by
  obtain ⟨vi, ⟨b, hv, hb⟩, ⟨b2, hv2, hb2⟩⟩ := h
  have n1 : b ≠ R := fun e => by subst e; rw [hb] at hR; simp at hR
  have n2 : b2 ≠ R := fun e => by subst e; rw [hb2] at hR; simp at hR
  exact ⟨vi, ⟨b, hv, by rw [Below.heap_setCell _ _ _ _ n1, Below.heap_setCell _ _ _ _ n1, Below.heap_setCell _ _ _ _ n1, Below.heap_setCell _ _ _ _ n1]; exact hb⟩,
    ⟨b2, hv2, by rw [Below.heap_setCell _ _ _ _ n2, Below.heap_setCell _ _ _ _ n2, Below.heap_setCell _ _ _ _ n2, Below.heap_setCell _ _ _ _ n2]; exact hb2⟩⟩

set_option maxRecDepth 100000 in
theorem satNo_any {p : Addr} {s : Lts} (h : ¬ s.Right) {a : Option Addr} {b off c : Nat} {w : World} (hG : WkErr p w) (hT : ErrType w) (hS : SlAt encE 3 w a b off s.es) :
    Calls Tryz.prog 12 #[.agg #[.int .i64 s.st, .int .i64 s.lb, .int .i64 s.s0, .slice a s.es.length c]] w fun e w' =>
      ∃ v, e = .returned (.tuple #[.agg #[.int .i64 0, .int .i64 0, .int .i64 0, .slice none 0 0], v]) ∧ FaultW w' p v ∧ Below w.heap.size w w' := by
  have hB0 := ((Below.refl w.heap.size w).alloc (Nat.le_refl _) (Obj.cells #[.int .i64 s.st, .int .i64 s.lb, .int .i64 s.s0, .slice a s.es.length c] 24)).alloc (by simp) (Obj.cells #[.int .i64 0, .int .i64 0, .int .i64 0, .slice none 0 0] 24)
  have hR0 := heap_alloc_new (w.alloc (Obj.cells #[.int .i64 s.st, .int .i64 s.lb, .int .i64 s.s0, .slice a s.es.length c] 24)) (Obj.cells #[.int .i64 0, .int .i64 0, .int .i64 0, .slice none 0 0] 24)
  rw [show (w.alloc (Obj.cells #[.int .i64 s.st, .int .i64 s.lb, .int .i64 s.s0, .slice a s.es.length c] 24)).heap.size = w.heap.size + 1 by simp] at hR0
  have HN := Lib.hid (madeWNo_any (c := c) h (hG.below hB0) (hT.below hB0) (hS.below hB0 (Nat.le_refl _)))
  have HB0 := Lib.hid hB0; have HR0 := Lib.hid hR0
  clear hB0 hS hG h hT hR0
  go_enter Tryz.func12, Tryz.ntmps12
  go_wp2_with fail
  refine HN.out.mono ?_
  rintro e w1 ⟨v, rfl, hF, hB1⟩
  obtain ⟨vi, hf1, hf2⟩ := id hF
  obtain ⟨fb, rfl, _⟩ := hf1.ex
  have hr1 := (hB1.block (w.heap.size + 1) (by simp)).trans HR0.out
  have hB := HB0.out.trans (hB1.mono (by simp; omega))
  obtain ⟨⟨z0, z1, z2, z3, z4⟩, f0, f1, f2, f3⟩ := sysZ hr1
  have HF := Lib.hid hF; have HB := Lib.hid hB; have HR1 := Lib.hid hr1
  clear hr1 hf1 hf2 hF hB1 hB HR0
  go_wp2_with fail
  have hfin : (((((w1.setCell ⟨w.heap.size + 1, 0, none⟩ (.int .i64 0)).setCell ⟨w.heap.size + 1, 1, none⟩ (.int .i64 0)).setCell ⟨w.heap.size + 1, 2, none⟩ (.int .i64 0)).setCell ⟨w.heap.size + 1, 3, none⟩ (.slice none 0 0)).alloc (Obj.cells #[.pointer none] 57)).heap[w.heap.size + 1]? = some (.cells #[.int .i64 0, .int .i64 0, .int .i64 0, .slice none 0 0] 24 (0, 0)) := (Below.heap_alloc _ _ _ (by simp only [size_setCell]; exact z4)).trans (heap_setCell_same _ _ 3 _ _ _ (heap_setCell_same _ _ 2 _ _ _ (heap_setCell_same _ _ 1 _ _ _ (heap_setCell_same _ _ 0 _ _ _ HR1.out))))
  have hFf : FaultW (((((w1.setCell ⟨w.heap.size + 1, 0, none⟩ (.int .i64 0)).setCell ⟨w.heap.size + 1, 1, none⟩ (.int .i64 0)).setCell ⟨w.heap.size + 1, 2, none⟩ (.int .i64 0)).setCell ⟨w.heap.size + 1, 3, none⟩ (.slice none 0 0)).alloc (Obj.cells #[.pointer none] 57)) p (.iface 73 (.pointer (some ⟨fb, 0, none⟩))) := (HF.out.setR HR1.out _ _ _ _).below ((Below.refl _ _).alloc (Nat.le_refl _) _)
  have hBf : Below w.heap.size w (((((w1.setCell ⟨w.heap.size + 1, 0, none⟩ (.int .i64 0)).setCell ⟨w.heap.size + 1, 1, none⟩ (.int .i64 0)).setCell ⟨w.heap.size + 1, 2, none⟩ (.int .i64 0)).setCell ⟨w.heap.size + 1, 3, none⟩ (.slice none 0 0)).alloc (Obj.cells #[.pointer none] 57)) := ((((HB.out.setCell (by show w.heap.size ≤ w.heap.size + 1; omega) _).setCell (by show w.heap.size ≤ w.heap.size + 1; omega) _).setCell (by show w.heap.size ≤ w.heap.size + 1; omega) _).setCell (by show w.heap.size ≤ w.heap.size + 1; omega) _).alloc (by simp only [size_setCell]; exact HB.out.size) _
  obtain ⟨W9, hW9⟩ : ∃ W9, W9 = (((((w1.setCell ⟨w.heap.size + 1, 0, none⟩ (.int .i64 0)).setCell ⟨w.heap.size + 1, 1, none⟩ (.int .i64 0)).setCell ⟨w.heap.size + 1, 2, none⟩ (.int .i64 0)).setCell ⟨w.heap.size + 1, 3, none⟩ (.slice none 0 0)).alloc (Obj.cells #[.pointer none] 57)) := ⟨_, rfl⟩
  rw [← hW9] at hfin hFf hBf
  rw [← hW9]
  obtain ⟨y0, y1, y2, y3, _⟩ := sysC hfin
  refine bodyPost_ret (v := .tuple #[.agg #[.int .i64 0, .int .i64 0, .int .i64 0, .slice none 0 0], .iface 73 (.pointer (some ⟨fb, 0, none⟩))]) (by simp [results, Tryz.results12, go_sem, y0, y1, y2, y3]) rfl ⟨_, rfl, hFf, hBf⟩
end Go.Proofs.YtdhloijdefnkpaaGreatDoor

/-
  system.Graph.Cut at a graph; at no graph and at an empty one.
  Small lemmas on rows: two rows of unlike elements, a struct's cells. (Taken out of LawGAll.)
  law7.GraphAll.
-/
import Derived.Test.YtkmljelgogcobaaGreatDoorGSortI
import Derived.Test.YtkmljelgogcobaaGreatDoorCut
import Derived.Test.YtkmljelgogcobaaGreatDoorRws
import Derived.Test.YtkmljelgogcobaaGreatDoorGNew
import Derived.Test.YtkmljelgogcobaaGreatDoorRefOut
import Derived.Test.YtkmljelgogcobaaGreatDoorGCompactS
import Derived.Test.YtkmljelgogcobaaGreatDoorGCompact
import Derived.Test.YtkmljelgogcobaaGreatDoorBkQ
namespace Go.Proofs.YtkmljelgogcobaaGreatDoor
open Go.RowKit Pl

set_option maxRecDepth 100000 in
/-- own, its value fixed ahead. -/
theorem own_at {w : World} {gb : Nat} {s : Lts} (h : GraphAt w gb s) : ∃ (a : Option Addr) (c b off : Nat), SlAt encE 3 w a b off s.es ∧ ∀ w1, Below w.heap.size w w1 →
    Calls Tryz.prog 61 #[.pointer (some ⟨gb, 0, none⟩)] w1 fun e w' => e = .returned (.agg #[.int .i64 s.st, .int .i64 s.lb, .int .i64 s.s0, .slice a s.es.length c]) ∧ Below w1.heap.size w1 w' := by
  obtain ⟨ve, oa, of, ia, if_, h1, ⟨a, c, b, off, rfl, hcc, h3⟩, _, _⟩ := h.blk
  refine ⟨a, c, b, off, h3, fun w1 hB => ?_⟩
  have h1' := (hB.block gb h.lt).trans h1
  have c0 : w1.cell? ⟨gb, 0, none⟩ = some (.int .i64 s.st) := by simp [World.cell?, h1']
  have c1 : w1.cell? ⟨gb, 1, none⟩ = some (.int .i64 s.lb) := by simp [World.cell?, h1']
  have c2 : w1.cell? ⟨gb, 2, none⟩ = some (.int .i64 s.s0) := by simp [World.cell?, h1']
  have c3 : w1.cell? ⟨gb, 3, none⟩ = some (.slice a s.es.length c) := by simp [World.cell?, h1']
  have hgb : gb < w1.heap.size := Nat.lt_of_lt_of_le h.lt hB.size
  clear h h1 h1' h3 hB
  go_enter Tryz.func61, Tryz.ntmps61
  go_wp2
  have hB : Below w1.heap.size w1 _ := (Below.refl w1.heap.size w1).alloc (Nat.le_refl _) (Obj.cells #[.int .i64 s.st, .int .i64 s.lb, .int .i64 s.s0, .slice a s.es.length c] 24)
  exact bodyPost_ret (v := .agg #[.int .i64 s.st, .int .i64 s.lb, .int .i64 s.s0, .slice a s.es.length c]) (by simp [results, Tryz.results61, go_sem]) rfl ⟨rfl, hB⟩

theorem cut_any {w : World} {gb : Nat} {s : Lts} (h : GraphAt w gb s) : Calls Tryz.prog 17 #[.pointer (some ⟨gb, 0, none⟩)] w (CutPost s s.st.toNat w) := by
  have hst := h.right.st0
  have hn : s.st = (s.st.toNat : Int) := by omega
  obtain ⟨a, c, b, off, hE, hO⟩ := own_at h
  refine cut_gen (s := s) hn (by omega) (by omega) (fun x hx => ?_) ⟨by omega, by omega⟩ (fun w1 hB => getLabels_any (h.below hB)) (fun w1 hB => by have := getStates_any (h.below hB); rw [hn] at this; exact this) (fun w1 hB => getStart_any (h.below hB)) hE hO (fun w1 hB => reach_any (h.below hB))
  have := offB_false.1 (h.right.edges x hx)
  omega
end Go.Proofs.YtkmljelgogcobaaGreatDoor

namespace Go.Proofs.YtkmljelgogcobaaGreatDoor
open Go.RowKit Pl

theorem own_ofRow {w : World} {b : Nat} {t : TypeId} {n base : Nat} {f : Nat → Value} (h : w.rowIs b t n f) (hb : base ≤ b) (hn : n ≤ maxLen) : w.ownsRow base t 1 (.slice (some ⟨b, 0, none⟩) n n) n ((List.range n).map f) := by
  obtain ⟨cs, h1, h2, h3⟩ := h
  refine ⟨by simp, .inr ⟨b, n, cs, rfl, hb, h1, Nat.le_refl _, hn, by rw [h2]; omega, ?_⟩⟩
  apply List.ext_getElem?
  intro i
  rw [List.getElem?_take]
  by_cases hi : i < n
  · rw [if_pos (by omega), Array.getElem?_toList, h3 i hi]
    simp [hi]
  · rw [if_neg (by omega), List.getElem?_eq_none (by simp; omega)]
theorem sysG {w : World} {B : Nat} {x y z : Int} {v : Value} (h : w.heap[B]? = some (.cells #[.int .i64 x, .int .i64 y, .int .i64 z, v] 24 (0, 0))) :
    w.cell? ⟨B, 0, none⟩ = some (.int .i64 x) ∧ w.cell? ⟨B, 1, none⟩ = some (.int .i64 y) ∧ w.cell? ⟨B, 2, none⟩ = some (.int .i64 z) ∧ w.cell? ⟨B, 3, none⟩ = some v := by
  refine ⟨?_, ?_, ?_, ?_⟩ <;> simp [World.cell?, h]
theorem at_world {P : Program} {c : Code} {Q : Exit → Act → World → Prop} {a : Act} {w : World} (R : World → Prop) (h0 : R w) (h : ∀ W, R W → c.wp P Q a W) : c.wp P Q a w := h w h0
/-- Rows of unlike elements share no block. -/
theorem own_unlike {w : World} {b1 b2 : Nat} {t1 t2 : TypeId} {k1 k2 n1 n2 : Nat} {v1 v2 : Value} {x1 x2 : List Value} (h1 : w.ownsRow b1 t1 k1 v1 n1 x1) (h2 : w.ownsRow b2 t2 k2 v2 n2 x2) (hne : t1 ≠ t2) : ∀ g, v1.ownBlock = some g → v2.ownBlock ≠ some g := fun g hg hg2 => by
  rcases h1.2 with ⟨e, _⟩ | ⟨g1, c1, cur1, e1, _, hh1, _⟩
  · rw [e] at hg; cases hg
  · rcases h2.2 with ⟨e, _⟩ | ⟨g2, c2, cur2, e2, _, hh2, _⟩
    · rw [e] at hg2; cases hg2
    · rw [e1] at hg; rw [e2] at hg2
      simp only [Value.ownBlock, Option.some.injEq] at hg hg2
      subst hg
      subst hg2
      rw [hh1] at hh2
      simp only [Option.some.injEq, Obj.cells.injEq] at hh2
      exact hne hh2.2.1
theorem Rws.two {w w' : World} {t1 t2 : TypeId} {k1 k2 n1 n2 : Nat} {v1 v2 : Value} {x1 x2 : List Value} (hB : Below w.heap.size w w') (h1 : w'.ownsRow w.heap.size t1 k1 v1 n1 x1) (h2 : w'.ownsRow w.heap.size t2 k2 v2 n2 x2) (hne : t1 ≠ t2) : Rws w w' [⟨t1, k1, v1, n1, x1⟩, ⟨t2, k2, v2, n2, x2⟩] where
  bel := hB
  own r hr := by
    simp only [List.mem_cons, List.not_mem_nil, or_false] at hr
    rcases hr with rfl | rfl
    · exact h1
    · exact h2
  apart := by
    rw [List.pairwise_cons]
    refine ⟨fun b hb => ?_, by simp⟩
    simp only [List.mem_cons, List.not_mem_nil, or_false] at hb
    subst hb
    exact own_unlike h1 h2 hne
end Go.Proofs.YtkmljelgogcobaaGreatDoor

namespace Go.Proofs.YtkmljelgogcobaaGreatDoor
open Go.RowKit Pl

set_option maxRecDepth 100000 in
set_option maxHeartbeats 8000000 in
theorem graphAll_any {w : World} {p : Addr} (hE : GErr 0 p w) {s : Lts} {a : Option Addr} {b off c : Nat} (hS : SlAt encE 3 w a b off s.es) (hc : s.es.length ≤ c) (hcm : c ≤ maxLen) :
    Calls Tryz.prog 3 #[.agg #[.int .i64 s.st, .int .i64 s.lb, .int .i64 s.s0, .slice a s.es.length c]] w fun e w' => e = .returned (.bool true) ∧ Below w.heap.size w w' := by
  have hB0 := (Below.refl w.heap.size w).alloc (Nat.le_refl _) (Obj.cells #[.int .i64 s.st, .int .i64 s.lb, .int .i64 s.s0, .slice a s.es.length c] 24)
  have hbx := heap_alloc_new w (Obj.cells #[.int .i64 s.st, .int .i64 s.lb, .int .i64 s.s0, .slice a s.es.length c] 24)
  have HE := Lib.hid (hE.below hB0); have HS := Lib.hid (hS.below hB0 (Nat.le_refl _)); have HB0 := Lib.hid hB0; have HBX := Lib.hid hbx
  clear hE hS hB0 hbx
  have fin : ∀ w1 : World, GErr 0 p w1 → Below w.heap.size w w1 → Calls Tryz.prog 6 #[] w1 fun e w' => e = .returned (.bool true) ∧ Below w.heap.size w w' := by
    intro w1 h1 h2
    refine (alive_any h1).mono ?_
    rintro e w' ⟨rfl, hB⟩
    exact ⟨rfl, h2.trans (hB.mono h2.size)⟩
  have FIN := Lib.hid fin
  clear fin
  by_cases h300 : 300 < s.es.length
  · have hi : (300 : Int) < (s.es.length : Int) := by omega
    clear hc hcm
    go_enter Tryz.func3, Tryz.ntmps3
    go_wp2_with fail
    refine (FIN.out _ HE.out HB0.out).mono ?_
    rintro e w1 ⟨rfl, hB⟩
    go_wp2
    go_ret
    exact ⟨rfl, hB⟩
  have hi : ¬ (300 : Int) < (s.es.length : Int) := by omega
  by_cases h40 : 40 < s.st
  · clear hc hcm
    go_enter Tryz.func3, Tryz.ntmps3
    go_wp2_with fail
    refine (FIN.out _ HE.out HB0.out).mono ?_
    rintro e w1 ⟨rfl, hB⟩
    go_wp2
    go_ret
    exact ⟨rfl, hB⟩
  by_cases hr : s.Right
  case neg =>
    clear hc hcm
    go_enter Tryz.func3, Tryz.ntmps3
    go_wp2_with fail
    refine (new_no (c := c) hr HE.out HS.out).mono ?_
    rintro e w1 ⟨v, rfl, hF, hB1⟩
    have HE1 := Lib.hid (HE.out.below hB1)
    have HB1 := Lib.hid (HB0.out.trans (hB1.mono (by simp)))
    obtain ⟨fb, rfl, _⟩ := hF.ex
    clear hB1 hF
    go_wp2_with fail
    refine (FIN.out _ HE1.out HB1.out).mono ?_
    rintro e w2 ⟨rfl, hB2⟩
    go_wp2
    go_ret
    exact ⟨rfl, hB2⟩
  case pos =>
  have hst := hr.st0
  obtain ⟨n, hn⟩ : ∃ n : Nat, s.st = (n : Int) := ⟨s.st.toNat, by omega⟩
  have hn40 : n ≤ 40 := by omega
  obtain ⟨el, hel⟩ : ∃ el, el = s.es.length := ⟨_, rfl⟩
  have hel3 : el ≤ 300 := by omega
  have HR := Lib.hid hr; have HN := Lib.hid hn; have HST := Lib.hid hst; have HEL := Lib.hid hel; have HC := Lib.hid hc; have HCM := Lib.hid hcm
  have HNEW := Lib.hid (new_ok (c := c) hr HE.out HS.out)
  rw [← hel] at HBX HNEW HB0 HE HS hi h300 ⊢
  rw [hn] at HBX HNEW HB0 HE HS h40 ⊢
  clear hn hst hr hel hc hcm h300
  go_enter Tryz.func3, Tryz.ntmps3
  go_wp2_with fail
  refine HNEW.out.mono ?_
  rintro e w1 ⟨gb, rfl, hGr, hB1, _⟩
  have hbx1 := (hB1.block w.heap.size (by simp)).trans HBX.out
  have HE1 := Lib.hid (HE.out.below hB1); have HS1 := Lib.hid (HS.out.below hB1 (Nat.le_refl _)); have HGr := Lib.hid hGr; have HBX1 := Lib.hid hbx1
  have HB1 := Lib.hid (HB0.out.trans (hB1.mono (by simp)))
  have hbl1 := (Array.getElem?_eq_some_iff.1 hbx1).1
  have hgl1 := hGr.lt
  clear hGr hB1 hbx1 HE HS HBX HB0 HNEW
  have HBK := Lib.hid (Bk.start w1)
  have HSYS : RowKit.Hid (∀ V, Below w1.heap.size w1 V → (V.cell? ⟨w.heap.size, 0, none⟩ = some (.int .i64 (n : Int)) ∧ V.cell? ⟨w.heap.size, 1, none⟩ = some (.int .i64 s.lb) ∧ V.cell? ⟨w.heap.size, 2, none⟩ = some (.int .i64 s.s0) ∧ V.cell? ⟨w.heap.size, 3, none⟩ = some (.slice a el c)) ∧ w.heap.size < V.heap.size ∧ GraphAt V gb s.norm) := Lib.hid (fun V hV => by
    have h := (hV.block _ hbl1).trans HBX1.out
    obtain ⟨x0, x1, x2, x3⟩ := sysG h
    exact ⟨⟨x0, x1, x2, x3⟩, (Array.getElem?_eq_some_iff.1 h).1, HGr.out.below hV⟩)
  obtain ⟨lb, hlb⟩ : ∃ lb, lb = s.lb := ⟨_, rfl⟩
  rw [← hlb] at HSYS
  have hlb1 : 1 ≤ lb ∧ lb ≤ 201 := by have := HST.out; omega
  have HLB := Lib.hid hlb
  clear hlb
  go_upto_region 7 with fail
  refine at_world (fun W => Bk w1 W w1.heap.size [] []) HBK.out (fun W1 hW1 => ?_)
  replace HBK := Lib.hid hW1
  clear hW1
  obtain ⟨bb, hbb⟩ : ∃ bb, bb = w1.heap.size := ⟨_, rfl⟩
  rw [← hbb] at HBK ⊢
  clear hbb
  have HOL : RowKit.Hid (∀ i : Int, (s.norm.outs i).length ≤ 500000 ∧ (s.norm.ins i).length ≤ 500000 ∧ ∀ l, (withL l (s.norm.outs i)).length ≤ 500000 ∧ (withL l (s.norm.ins i)).length ≤ 500000) := Lib.hid (fun i => by
    have h1 := outs_len HR.out.norm i; have h2 := ins_len HR.out.norm i
    have h3 : ∀ (l : Int) (L : List S), (withL l L).length ≤ L.length := fun l L => by unfold withL; rw [List.length_map]; exact List.length_filter_le _ _
    refine ⟨by omega, by omega, fun l => ⟨?_, ?_⟩⟩
    · have := h3 l (s.norm.outs i); omega
    · have := h3 l (s.norm.ins i); omega)
  go_wp2_with fail
  go_loopw [6, 7, 8, 9, 10, 11, 12] (fun v6 _ _ _ _ _ _ wr => ∃ (k : Nat) (Z : List Rw), v6 = .int .i64 k ∧ k ≤ 2 ∧ Bk w1 wr bb Z []) (fun v6 _ _ _ _ _ _ _ => 2 - (intOf v6).toNat)
  case atStart => exact ⟨0, [], rfl, by omega, HBK.out⟩
  case round =>
    obtain ⟨k, Z, rfl, hk, hbk⟩ := hrel
    replace HBK := Lib.hid hbk
    clear hbk
    by_cases hk2 : k < 2
    · have hkI : (k : Int) < 2 := by omega
      go_wp2_with fail
      go_loopw [7, 8] (fun v7 _ wr => ∃ (i : Nat) (Z : List Rw), v7 = .int .i64 i ∧ i ≤ n ∧ Bk w1 wr bb Z []) (fun v7 _ _ => n - (intOf v7).toNat)
      case atStart => exact ⟨0, Z, rfl, Nat.zero_le _, HBK.out⟩
      case round =>
        obtain ⟨i, Z2, rfl, hi2, hbk⟩ := hrel
        replace HBK := Lib.hid hbk
        have hss := HSYS.out _ hbk.bel
        obtain ⟨⟨x0, x1, x2, x3⟩, xl, _⟩ := hss
        clear hbk
        by_cases hin : i < n
        · have hinI : (i : Int) < (n : Int) := by omega
          go_wp2_with fail
          refine (getOut_any ((HSYS.out _ HBK.out.bel).2.2) (i : Int)).mono ?_
          rintro e w2 ⟨v, rfl, hown, hB⟩
          replace HBK := Lib.hid (HBK.out.add hB hown)
          clear hown hB
          go_wp2_with fail
          refine (HBK.out.giveS rfl rfl (HOL.out i).1).mono ?_
          rintro e w3 ⟨rfl, hbk⟩
          replace HBK := Lib.hid hbk
          clear hbk
          go_wp2_with fail
          refine (getIn_any ((HSYS.out _ HBK.out.bel).2.2) (i : Int)).mono ?_
          rintro e w2 ⟨v, rfl, hown, hB⟩
          replace HBK := Lib.hid (HBK.out.add hB hown)
          clear hown hB
          go_wp2_with fail
          refine (HBK.out.giveS rfl rfl (HOL.out i).2.1).mono ?_
          rintro e w3 ⟨rfl, hbk⟩
          replace HBK := Lib.hid hbk
          clear hbk
          clear x0 x1 x2 x3 xl
          go_wp2_with fail
          go_loopw [8] (fun v8 wr => ∃ (x : Nat) (Z : List Rw), v8 = .int .i64 x ∧ x ≤ 3 ∧ Bk w1 wr bb Z []) (fun v8 _ => 3 - (intOf v8).toNat)
          case atStart => exact ⟨0, _, rfl, Nat.zero_le _, HBK.out⟩
          case round =>
            obtain ⟨x, Z3, rfl, hx3, hbk⟩ := hrel
            replace HBK := Lib.hid hbk
            obtain ⟨⟨x0, x1, x2, x3⟩, xl, _⟩ := HSYS.out _ hbk.bel
            clear hbk
            by_cases hxl : (x : Int) < lb
            · by_cases hx4 : x < 3
              · have hx4I : (x : Int) < 3 := by omega
                go_wp2_with fail
                refine (getBy_any ((HSYS.out _ HBK.out.bel).2.2) (i : Int) (x : Int)).mono ?_
                rintro e w2 ⟨v, rfl, hown, hB⟩
                replace HBK := Lib.hid (HBK.out.add hB hown)
                clear hown hB
                go_wp2_with fail
                refine (HBK.out.giveI rfl rfl ((HOL.out i).2.2 x).1).mono ?_
                rintro e w3 ⟨rfl, hbk⟩
                replace HBK := Lib.hid hbk
                clear hbk
                go_wp2_with fail
                refine (getFrom_any ((HSYS.out _ HBK.out.bel).2.2) (i : Int) (x : Int)).mono ?_
                rintro e w2 ⟨v, rfl, hown, hB⟩
                replace HBK := Lib.hid (HBK.out.add hB hown)
                clear hown hB
                go_wp2_with fail
                refine (HBK.out.giveI rfl rfl ((HOL.out i).2.2 x).2).mono ?_
                rintro e w3 ⟨rfl, hbk⟩
                replace HBK := Lib.hid hbk
                clear hbk
                clear x0 x1 x2 x3 xl
                go_wp2_with fail
                go_roundw
                case rel => exact ⟨x + 1, _, by go_num, by omega, HBK.out⟩
                case measure => simp [intOf]; omega
              · have hx4I : ¬ (x : Int) < 3 := by omega
                go_wp2_with fail
                go_roundw
                case rel => exact ⟨i + 1, _, by go_num, by omega, HBK.out⟩
                case measure => simp [intOf]; omega
            · go_wp2_with fail
              go_roundw
              case rel => exact ⟨i + 1, _, by go_num, by omega, HBK.out⟩
              case measure => simp [intOf]; omega
        · obtain rfl : i = n := by omega
          go_wp2_with fail
          refine (getEdges_any ((HSYS.out _ HBK.out.bel).2.2)).mono ?_
          rintro e w2 ⟨v, rfl, hown, hB⟩
          replace HBK := Lib.hid (HBK.out.add hB hown)
          clear hown hB
          go_wp2_with fail
          refine (HBK.out.giveE rfl rfl (by have := HR.out.norm.st0; omega)).mono ?_
          rintro e w3 ⟨rfl, hbk⟩
          replace HBK := Lib.hid hbk
          clear hbk
          go_wp2_with fail
          refine (reach_any ((HSYS.out _ HBK.out.bel).2.2)).mono ?_
          rintro e w2 ⟨v, rfl, hown, hB⟩
          replace HBK := Lib.hid (HBK.out.add hB hown)
          clear hown hB
          go_wp2_with fail
          refine (HBK.out.giveI rfl rfl (by have := reachL_len (s := s.norm); have := HST.out; have : s.norm.st = s.st := rfl; omega)).mono ?_
          rintro e w3 ⟨rfl, hbk⟩
          replace HBK := Lib.hid hbk
          clear hbk
          have hcut : Calls Tryz.prog 17 #[.pointer (some ⟨gb, 0, none⟩)] w3 (CutPost s.norm i w3) := by
            have h := cut_any (HSYS.out _ HBK.out.bel).2.2
            rw [show s.norm.st.toNat = i from by have := HN.out; show s.st.toNat = i; omega] at h
            exact h
          go_wp2_with fail
          refine hcut.mono ?_
          rintro e w2 ⟨v, TB, rfl, hown, hrow, hTB, hB⟩
          obtain ⟨va, vc, rfl⟩ := own_sl hown
          have hcl : (cut s.norm).es.length ≤ 500000 := by
            have h1 := HR.out.norm.st0
            show (cutE s.norm).length ≤ 500000
            unfold cutE
            rw [List.length_map]
            have := List.length_filter_le (fun x => decide (0 ≤ toOf s.norm x.1)) s.norm.es
            omega
          obtain ⟨L, hL⟩ : ∃ L : List Int, L = (List.range i).map (fun j : Nat => toOf s.norm (j : Int)) := ⟨_, rfl⟩
          have hLl : L.length = i := by rw [hL]; simp
          have hLw : ∀ x ∈ L, (Lit.int .i64 x).wf = true := fun x hx => by
            rw [hL] at hx
            obtain ⟨j, _, rfl⟩ := List.mem_map.1 hx
            have h1 := toOf_rng s.norm (j : Int)
            have h2 := reachL_len (s := s.norm)
            have h3 := HST.out
            have h4 : s.norm.st = s.st := rfl
            exact WalkArith.wf_i64 (by omega)
          have hrw := own_ofRow hrow hTB (by unfold maxLen; omega)
          rw [show (List.range i).map (fun j : Nat => Value.int .i64 (toOf s.norm (j : Int))) = L.flatMap encI from by rw [hL]; clear hrow; induction (List.range i) with | nil => rfl | cons x l ih => rw [List.map_cons, List.map_cons, List.flatMap_cons, ih]; rfl] at hrw
          replace HBK := Lib.hid (HBK.out.join (Rws.two hB (own_mono hown (by omega)) hrw (by decide)))
          have HCL := Lib.hid hcl; have HLL := Lib.hid hLl; have HLW := Lib.hid hLw
          clear hown hrow hTB hB hcut hcl hL hLl hLw hrw
          go_wp2_with fail
          replace HBK := Lib.hid (HBK.out.call ((Below.refl w2.heap.size w2).alloc (Nat.le_refl _) (.cells #[.int .i64 (cut s.norm).st, .int .i64 (cut s.norm).lb, .int .i64 (cut s.norm).s0, .slice va (cut s.norm).es.length vc] 24)))
          refine (HBK.out.giveE rfl rfl HCL.out).mono ?_
          rintro e w3 ⟨rfl, hbk⟩
          replace HBK := Lib.hid hbk
          clear hbk
          go_wp2_with fail
          refine (HBK.out.giveI rfl HLL.out.symm (by omega)).mono ?_
          rintro e w3 ⟨rfl, hbk⟩
          replace HBK := Lib.hid hbk
          obtain ⟨⟨x0, x1, x2, x3⟩, xl, _⟩ := HSYS.out _ hbk.bel
          have hnm : Calls Tryz.prog 18 #[.agg #[.int .i64 (i : Int), .int .i64 lb, .int .i64 s.s0, .slice a el c]] w3 fun e w' => ∃ v, e = .returned (.tuple #[.agg #[.int .i64 (i : Int), .int .i64 lb, .int .i64 s.s0, v], .nilIface]) ∧ w'.ownsRow w3.heap.size 79 3 v (nf ltE s.es).length ((nf ltE s.es).flatMap encE) ∧ Below w3.heap.size w3 w' := by
            have h := normal_ok (c := c) HR.out (HE1.out.below hbk.bel) (HS1.out.below hbk.bel (Nat.le_refl _))
            rw [HN.out, ← HLB.out, ← HEL.out] at h
            exact h
          have HNM := Lib.hid hnm
          clear hbk hnm
          go_wp2_with fail
          refine HNM.out.mono ?_
          rintro e w4 ⟨v4, rfl, hown, hB⟩
          obtain ⟨va4, vc4, rfl⟩ := own_sl hown
          replace HBK := Lib.hid (HBK.out.add hB hown)
          clear hown hB x0 x1 x2 x3 xl HNM
          go_wp2_with fail
          replace HBK := Lib.hid (HBK.out.call ((Below.refl w4.heap.size w4).alloc (Nat.le_refl _) (.cells #[.int .i64 (i : Int), .int .i64 lb, .int .i64 s.s0, .slice va4 (nf ltE s.es).length vc4] 24)))
          refine (HBK.out.giveE rfl rfl (by have := length_nf (lt := ltE) s.es; have := HEL.out; omega)).mono ?_
          rintro e w5 ⟨rfl, hbk⟩
          replace HBK := Lib.hid hbk
          have hca : Calls Tryz.prog 19 #[.slice (some ⟨TB, 0, none⟩) i i] w5 fun e w' => ∃ v, e = .returned v ∧ w'.ownsRow w5.heap.size 3 1 v i ((canon L).flatMap encI) ∧ Below w5.heap.size w5 w' := by
            have ho := hbk.own (r := ⟨3, 1, .slice (some ⟨TB, 0, none⟩) i i, i, L.flatMap encI⟩) (.inl (by simp))
            dsimp only at ho
            obtain ⟨a9, c9, b9, e9, _, _, h9, _⟩ := slAt_own (xs := L) lenI (by rw [HLL.out]; exact ho)
            rw [HLL.out] at e9
            cases e9
            have h := canon_any (c := i) h9 (by rw [HLL.out]; omega) HLW.out
            rw [HLL.out] at h
            exact h
          have HCA := Lib.hid hca
          clear hbk hca
          go_wp2_with fail
          refine HCA.out.mono ?_
          rintro e w6 ⟨v6, rfl, hown, hB⟩
          replace HBK := Lib.hid (HBK.out.add hB hown)
          clear hown hB HCA
          go_wp2_with fail
          refine (HBK.out.giveI rfl (by rw [canon_len, HLL.out]) (by omega)).mono ?_
          rintro e w7 ⟨rfl, hbk⟩
          replace HBK := Lib.hid hbk
          clear hbk
          go_wp2_with fail
          go_roundw
          case rel => exact ⟨k + 1, _, by go_num, by omega, HBK.out⟩
          case measure => simp [intOf]; omega
    · obtain rfl : k = 2 := by omega
      go_wp2_with fail
      refine HBK.out.apart.mono ?_
      rintro e w2 ⟨rfl, hB2⟩
      have HB2 := Lib.hid hB2
      obtain ⟨⟨x0, x1, x2, x3⟩, xl, _⟩ := HSYS.out _ hB2
      have hou : Calls Tryz.prog 21 #[.agg #[.int .i64 (n : Int), .int .i64 lb, .int .i64 s.s0, .slice a el c]] w2 (OutPost s w2) := by
        have h := refOut_any HR.out (HS1.out.below hB2 (Nat.le_refl _)) HC.out HCM.out
        rw [HN.out, ← HLB.out, ← HEL.out] at h
        exact h
      have HOU := Lib.hid hou
      clear hB2 hou
      go_wp2_with fail
      refine HOU.out.mono ?_
      rintro e w3 ⟨ob, n', base, hn', rfl, hrows, hob, hB3⟩
      obtain rfl : n = n' := by have := HN.out; omega
      have HRW := Lib.hid hrows; have HB3 := Lib.hid (HB2.out.trans (hB3.mono HB2.out.size))
      clear hrows hob hB3 hn' x0 x1 x2 x3 xl HOU
      go_wp2_with fail
      go_loopw [14] (fun v14 wr => ∃ i : Nat, v14 = .int .i64 i ∧ i ≤ n ∧ Below w3.heap.size w3 wr) (fun v14 _ => n - (intOf v14).toNat)
      case atStart => exact ⟨0, rfl, Nat.zero_le _, Below.refl _ _⟩
      case round =>
        obtain ⟨i, rfl, hi2, hB⟩ := hrel
        have HB := Lib.hid (HB3.out.trans (hB.mono HB3.out.size)); have HBw := Lib.hid hB
        obtain ⟨⟨x0, x1, x2, x3⟩, xl, hg⟩ := HSYS.out _ HB.out
        have HG := Lib.hid hg
        clear hg hB
        by_cases hin : i < n
        · have hinI : (i : Int) < (n : Int) := by omega
          obtain ⟨vq, hvc, _, hvo⟩ := HRW.out.at hin
          obtain ⟨qa, qc, qb, rfl, _, _, hqs, _⟩ := slAt_own lenS hvo
          have hQ : ∀ V, Below w3.heap.size w3 V → V.cell? ⟨ob, i, none⟩ = some (.slice qa (s.norm.outs (i : Int)).length qc) ∧ ob < V.heap.size ∧ Below w3.heap.size w3 V := fun V hV => ⟨by rw [hV.cell (p := ⟨ob, i, none⟩) HRW.out.size]; exact hvc, Nat.lt_of_lt_of_le HRW.out.size hV.size, hV⟩
          have hGO : ∀ V, Below w3.heap.size w3 V → Calls Tryz.prog 9 #[.pointer (some ⟨gb, 0, none⟩), .int .i64 (i : Int)] V fun e w' => ∃ v, e = .returned v ∧ w'.ownsRow V.heap.size 92 2 v (s.norm.outs (i : Int)).length ((s.norm.outs (i : Int)).flatMap encS) ∧ Below V.heap.size V w' := fun V hV =>
            getOut_any (HSYS.out _ (HB3.out.trans (hV.mono HB3.out.size))).2.2 (i : Int)
          have hSM : ∀ (V : World) (v : Value) (base : Nat), Below w3.heap.size w3 V → V.ownsRow base 92 2 v (s.norm.outs (i : Int)).length ((s.norm.outs (i : Int)).flatMap encS) → Calls Tryz.prog 22 #[v, .slice qa (s.norm.outs (i : Int)).length qc] V fun e w' => e = .returned (.bool true) ∧ ∃ m, w' = V.drewN m := fun V v base hV hv => by
            obtain ⟨a2, c2, b2, rfl, _, _, hs2, _⟩ := slAt_own lenS hv
            have := sameSteps_any (c1 := c2) (c2 := qc) hs2 (hqs.below hV (Nat.le_refl _)) (by have := (HOL.out i).1; omega) (by have := (HOL.out i).1; omega)
            exact this.mono (by rintro e w7 ⟨rfl, mm, rfl⟩; exact ⟨by simp, mm, rfl⟩)
          have HQ := Lib.hid hQ; have HGO := Lib.hid hGO; have HSM := Lib.hid hSM
          obtain ⟨ql, hql⟩ : ∃ ql, ql = (s.norm.outs (i : Int)).length := ⟨_, rfl⟩
          rw [← hql] at HQ HGO HSM
          obtain ⟨q0, q1, q2⟩ := HQ.out _ HBw.out
          have hdr : Below wr.heap.size wr wr.drew := (Below.refl _ _).drew
          have hW0 : Below w3.heap.size w3 wr.drew := HBw.out.drew
          clear hvc hvo hqs hQ hGO hSM hql x1 x2 x3
          go_wp2_with fail
          go_region_held3 (fun V => V.cell? ⟨ob, i, none⟩ = some (.slice qa ql qc) ∧ ob < V.heap.size ∧ Below w3.heap.size w3 V)
            (first | (exact HQ.out _ (by assumption)) | assumption)
            (first
              | (go_at_call 9; go_split_ands; refine (HGO.out _ (by assumption)).mono ?_; rintro e w7 ⟨v7, rfl, hown7, hB7⟩; have hW7 : Below w3.heap.size w3 w7 := Below.trans (by assumption) (hB7.mono (Below.size (by assumption))))
              | (go_at_call 22; go_split_ands; refine (HSM.out _ _ _ (by assumption) hown7).mono ?_; rintro e w8 ⟨rfl, mm, rfl⟩; have hW8 : Below w3.heap.size w3 _ := bdrew (n := mm) (by assumption)))
          all_goals
            go_split_ands
            go_wp2_with fail
            go_roundw
            case rel => exact ⟨i + 1, by go_num, by omega, by assumption⟩
            case measure => simp [intOf]; omega
        · obtain rfl : n = i := by omega
          have hK : ∀ V, Below w3.heap.size w3 V → V.cell? ⟨w.heap.size, 3, none⟩ = some (.slice a el c) ∧ w.heap.size < V.heap.size ∧ Below w3.heap.size w3 V := fun V hV => by
            obtain ⟨⟨_, _, _, y3⟩, yl, _⟩ := HSYS.out _ (HB3.out.trans (hV.mono HB3.out.size))
            exact ⟨y3, yl, hV⟩
          have hAL : ∀ V, Below w3.heap.size w3 V → Calls Tryz.prog 6 #[] V fun e w' => e = .returned (.bool true) ∧ Below V.heap.size V w' := fun V hV => alive_any (HE1.out.below (HB3.out.trans (hV.mono HB3.out.size)))
          have hED : ∀ V, Below w3.heap.size w3 V → Calls Tryz.prog 15 #[.pointer (some ⟨gb, 0, none⟩)] V fun e w' => ∃ v, e = .returned v ∧ w'.ownsRow V.heap.size 79 3 v s.norm.es.length (s.norm.es.flatMap encE) ∧ Below V.heap.size V w' := fun V hV => getEdges_any (HSYS.out _ (HB3.out.trans (hV.mono HB3.out.size))).2.2
          have hSO : ∀ V, Below w3.heap.size w3 V → Calls Tryz.prog 24 #[.slice a el c] V fun e w' => ∃ v, e = .returned v ∧ w'.ownsRow V.heap.size 79 3 v s.norm.es.length (s.norm.es.flatMap encE) ∧ Below V.heap.size V w' := fun V hV => by
            have h := refSorted_any _ (Nat.le_refl _) (HS1.out.below (HB3.out.trans (hV.mono HB3.out.size)) (Nat.le_refl _)) HC.out HCM.out (by have := HST.out; omega)
            rw [← HEL.out] at h
            refine h.mono ?_
            rintro e w' ⟨a1, c1, rfl, h1, h2⟩
            exact ⟨_, rfl, h1, h2⟩
          have hSE : ∀ (U V : World) (v v' : Value) (b1 b2 : Nat), U.ownsRow b1 79 3 v s.norm.es.length (s.norm.es.flatMap encE) → Below U.heap.size U V → V.ownsRow b2 79 3 v' s.norm.es.length (s.norm.es.flatMap encE) → Calls Tryz.prog 23 #[v, v'] V fun e w' => e = .returned (.bool true) ∧ ∃ m, w' = V.drewN m := fun U V v v' b1 b2 h1 hB h2 => by
            obtain ⟨a2, c2, b2, rfl, _, _, hs2, _⟩ := slAt_own lenE (own_below h1 hB)
            obtain ⟨a3, c3, b3, rfl, _, _, hs3, _⟩ := slAt_own lenE h2
            have := sameEdges_any (c1 := c2) (c2 := c3) hs2 hs3 (by have := HR.out.norm.st0; omega) (by have := HR.out.norm.st0; omega)
            exact this.mono (by rintro e w7 ⟨rfl, mm, rfl⟩; exact ⟨by simp, mm, rfl⟩)
          have HK := Lib.hid hK; have HAL := Lib.hid hAL; have HED := Lib.hid hED; have HSO := Lib.hid hSO; have HSE := Lib.hid hSE
          obtain ⟨q0, q1, q2⟩ := HK.out _ HBw.out
          have hW0 : Below w3.heap.size w3 wr.drew := HBw.out.drew
          clear hK hAL hED hSO hSE x1 x2 x3
          go_wp2_with fail
          go_region_held3 (fun V => V.cell? ⟨w.heap.size, 3, none⟩ = some (.slice a el c) ∧ w.heap.size < V.heap.size ∧ Below w3.heap.size w3 V)
            (first | (exact HK.out _ (by assumption)) | assumption)
            (first
              | (go_at_call 6; go_split_ands; refine (HAL.out _ (by assumption)).mono ?_; rintro e w7 ⟨rfl, hB7⟩; have hW7 : Below w3.heap.size w3 w7 := Below.trans (by assumption) (hB7.mono (Below.size (by assumption))))
              | (go_at_call 15; go_split_ands; refine (HED.out _ (by assumption)).mono ?_; rintro e w8 ⟨v8, rfl, hown8, hB8⟩; have hW8 : Below w3.heap.size w3 w8 := Below.trans (by assumption) (hB8.mono (Below.size (by assumption))))
              | (go_at_call 24; go_split_ands; refine (HSO.out _ (by assumption)).mono ?_; rintro e w9 ⟨v9, rfl, hown9, hB9⟩; have hW9 : Below w3.heap.size w3 w9 := Below.trans (by assumption) (hB9.mono (Below.size (by assumption))))
              | (go_at_call 23; go_split_ands; refine (HSE.out _ _ _ _ _ _ hown8 (by assumption) hown9).mono ?_; rintro e w10 ⟨rfl, mm, rfl⟩; have hW10 : Below w3.heap.size w3 _ := bdrew (n := mm) (by assumption)))
          all_goals
            go_split_ands
            go_wp2_with fail
            go_ret
            exact ⟨rfl, HB1.out.trans (Below.mono (HB3.out.trans (Below.mono (by assumption) HB3.out.size)) HB1.out.size)⟩
end Go.Proofs.YtkmljelgogcobaaGreatDoor

/-
  semblanceref7.Cut: the system of the reachable states alone.
-/
import Derived.Test.YtbbjmompbmgnmaaDoorRefReach
import Derived.Test.YtbbjmompbmgnmaaDoorG26
import Derived.Deep.Cut
namespace Go.Proofs.YtbbjmompbmgnmaaDoor
open Go.RowKit Pl

/-- The world within Cut's last loop: the system at O, its edges the call's own. -/
structure KW (w5 wr : World) (O : Nat) (st lb s0 : Int) (v : Value) (es : List E) : Prop where
  oth : ∀ b, b < w5.heap.size → b ≠ O → wr.heap[b]? = w5.heap[b]?
  bel : Below O w5 wr
  oo : wr.heap[O]? = some (.cells #[.int .i64 st, .int .i64 lb, .int .i64 s0, v] 24 (0, 0))
  own : wr.ownsRow w5.heap.size 35 3 v es.length (es.flatMap encE)
  lt : O < w5.heap.size
section
variable {w5 wr w' : World} {O : Nat} {st lb s0 : Int} {v : Value} {es : List E}
theorem KW.call (h : KW w5 wr O st lb s0 v es) (hB : Below wr.heap.size wr w') : KW w5 w' O st lb s0 v es := by
  have hs := h.bel.size; have hl := h.lt
  exact ⟨fun b hb hne => by rw [hB.block _ (by omega)]; exact h.oth b hb hne, h.bel.trans (hB.mono (by omega)), by rw [hB.block _ (by omega)]; exact h.oo, own_below h.own hB, h.lt⟩
theorem KW.keepc {w1 : World} (h : KW w5 wr O st lb s0 v es) (hg : wr.grownBy w1 v.ownBlock) : w1.cell? ⟨O, 3, none⟩ = some v ∧ w1.frozen? ⟨O, 3, none⟩ = false := by
  have hs := h.bel.size; have hl := h.lt
  have := (hg.block O (by omega) (fun e => by have := (h.own.lt O e.symm).1; omega)).trans h.oo
  constructor <;> simp [World.cell?, World.frozen?, this]
theorem KW.setEs {w1 : World} {v' : Value} {es' : List E} (h : KW w5 wr O st lb s0 v es) (hown : w1.ownsRow w5.heap.size 35 3 v' es'.length (es'.flatMap encE)) (hg : wr.grownBy w1 v.ownBlock) :
    KW w5 (w1.setCell ⟨O, 3, none⟩ v') O st lb s0 v' es' := by
  have hs := h.bel.size; have hl := h.lt; have hgs := hg.size
  have hv : ∀ b, b < w5.heap.size → some b ≠ v.ownBlock := fun b hb e => by have := (h.own.lt b e.symm).1; omega
  refine ⟨fun b hb hne => ?_, (h.bel.grown hg (by omega) (fun k hk => by have := (h.own.lt k hk).1; omega)).setCell (Nat.le_refl _) _, ?_, ownsRow_setCell_below hown hl _, hl⟩
  · rw [Below.heap_setCell _ _ _ _ hne, hg.block b (by omega) (hv b hb)]
    exact h.oth b hb hne
  · exact heap_setCell_same _ O 3 _ _ _ ((hg.block O (by omega) (hv O hl)).trans h.oo)
theorem KW.cells (h : KW w5 wr O st lb s0 v es) : wr.cell? ⟨O, 0, none⟩ = some (.int .i64 st) ∧ wr.cell? ⟨O, 1, none⟩ = some (.int .i64 lb) ∧ wr.cell? ⟨O, 2, none⟩ = some (.int .i64 s0) ∧ wr.cell? ⟨O, 3, none⟩ = some v ∧ wr.frozen? ⟨O, 3, none⟩ = false := by
  have := h.oo
  refine ⟨?_, ?_, ?_, ?_, ?_⟩ <;> simp [World.cell?, World.frozen?, this]
end

/-- The new numbers, of the first k states. -/
noncomputable def tgK (s : Lts) (k j : Nat) : Int := if j < k then toOf s (j : Int) else 0
theorem tgK_step (s : Lts) (k j : Nat) : (if j = k then toOf s (k : Int) else tgK s k j) = tgK s (k + 1) j := by
  unfold tgK
  by_cases h : j = k
  · subst h; rw [if_pos rfl, if_pos (by omega)]
  · rw [if_neg h]
    by_cases h2 : j < k
    · rw [if_pos h2, if_pos (by omega)]
    · rw [if_neg h2, if_neg (by omega)]

set_option maxRecDepth 100000 in
set_option maxHeartbeats 8000000 in
theorem refCut_any {s : Lts} (hr : s.Right) {a : Option Addr} {b off c : Nat} {w : World} (hS : SlAt encE 3 w a b off s.es) (hc : s.es.length ≤ c) (hcm : c ≤ maxLen) :
    Calls Tryd.prog 30 #[.agg #[.int .i64 s.st, .int .i64 s.lb, .int .i64 s.s0, .slice a s.es.length c]] w (CutPost s.norm s.st.toNat w) := by
  have hst := hr.st0
  obtain ⟨n, hn⟩ : ∃ n : Nat, s.st = (n : Int) := ⟨s.st.toNat, by omega⟩
  obtain ⟨z, hz⟩ : ∃ z : Nat, s.s0 = (z : Int) := ⟨s.s0.toNat, by omega⟩
  have hn1 : n ≤ 1000 := by omega
  have hmk := run_make_row' (P := Tryd.prog) 25 3 (.int .i64 0) 8 Tryd.underlying25 (by kernel_rfl) rfl .i64 .i64 n (by omega) (by omega)
  have hB0 := (Below.refl w.heap.size w).alloc (Nat.le_refl _) (Obj.cells #[.int .i64 n, .int .i64 s.lb, .int .i64 z, .slice a s.es.length c] 24)
  have hB1 := hB0.alloc (by simp) (Obj.cells #[.int .i64 0, .int .i64 0, .int .i64 0, .slice none 0 0] 24)
  have hbx := heap_alloc_new w (Obj.cells #[.int .i64 n, .int .i64 s.lb, .int .i64 z, .slice a s.es.length c] 24)
  have hrx := heap_alloc_new (w.alloc (Obj.cells #[.int .i64 n, .int .i64 s.lb, .int .i64 z, .slice a s.es.length c] 24)) (Obj.cells #[.int .i64 0, .int .i64 0, .int .i64 0, .slice none 0 0] 24)
  have hre := refReach_any hr (hS.below hB1 (Nat.le_refl _)) hc hcm
  rw [hn, hz] at hre
  have HRE := Lib.hid hre; have HB1 := Lib.hid hB1; have HBX := Lib.hid hbx; have HRX := Lib.hid hrx; have HS := Lib.hid hS; have HR := Lib.hid hr; have HN := Lib.hid hn; have HZ := Lib.hid hz; have HC0 := Lib.hid hc; have HCM := Lib.hid hcm; have HST := Lib.hid hst
  rw [show s.st.toNat = n by omega]
  rw [hn, hz]
  have HSO : RowKit.Hid (∀ W, Below w.heap.size w W → Calls Tryd.prog 68 #[.slice a s.es.length c] W (SortPost s.es W)) := Lib.hid (fun W hW => refSorted_any _ (Nat.le_refl _) (hS.below hW (Nat.le_refl _)) hc hcm (by omega))
  obtain ⟨T, hT⟩ : ∃ T, T = s.norm := ⟨_, rfl⟩
  have hTs : T.st = (n : Int) := by rw [hT]; exact hn
  have hTz : T.s0 = (z : Int) := by rw [hT]; exact hz
  have hTe : T.es = nf ltE s.es := by rw [hT]; rfl
  have hTl : T.lb = s.lb := by rw [hT]; rfl
  have hTr : T.Right := by rw [hT]; exact hr.norm
  have HT := Lib.hid hT; have HTS := Lib.hid hTs; have HTZ := Lib.hid hTz; have HTE := Lib.hid hTe; have HTL := Lib.hid hTl; have HTR := Lib.hid hTr
  rw [← hT]
  obtain ⟨el, hel⟩ : ∃ el, el = s.es.length := ⟨_, rfl⟩
  rw [← hel] at HRE HB1 HBX HRX HSO ⊢
  clear hre hr hB0 hB1 hbx hrx hS hst hn hz hc hcm hT hTs hTz hTe hTl hTr hel
  go_enter Tryd.func30, Tryd.ntmps30
  go_wp2_with fail
  refine HRE.out.mono ?_
  rintro e w2 ⟨rb, n', hn', rfl, hin, hrb, hB2⟩
  obtain rfl : n = n' := by have := HN.out; omega
  have hs2 := hB2.size
  simp at hrb hs2
  have hbx2 : w2.heap[w.heap.size]? = some (.cells #[.int .i64 n, .int .i64 s.lb, .int .i64 z, .slice a el c] 24 (0, 0)) := by
    rw [hB2.block _ (by simp; omega), Below.heap_alloc _ _ _ (by simp)]; exact HBX.out
  have hrx2 : w2.heap[w.heap.size + 1]? = some (.cells #[.int .i64 0, .int .i64 0, .int .i64 0, .slice none 0 0] 24 (0, 0)) := by
    have h := HRX.out
    rw [hB2.block _ (by simp)]
    simpa using h
  have hrbl := hin.lt
  have hBw : Below w.heap.size w w2 := HB1.out.trans (hB2.mono (by simp; omega))
  have HIN := Lib.hid hin; have HBW := Lib.hid hBw
  have x0 : w2.cell? ⟨w.heap.size, 0, none⟩ = some (.int .i64 n) := by simp [World.cell?, hbx2]
  have hl0 : w.heap.size < w2.heap.size := by omega
  have HBX2 := Lib.hid hbx2; have HRX2 := Lib.hid hrx2
  rw [← HT.out] at HIN
  clear hin hBw hbx2 hrx2 hB2 hn' HRE HB1 HBX HRX
  obtain ⟨TB, hTB⟩ : ∃ TB, TB = w2.heap.size := ⟨_, rfl⟩
  obtain ⟨w3, hw3⟩ : ∃ w3, w3 = w2.alloc (.cells (madeCells #[.int .i64 0] n) 3) := ⟨_, rfl⟩
  have HW3 := Lib.hid hw3; have HTB := Lib.hid hTB
  clear hw3 hTB
  go_wp2_with fail
  clear hmk x0
  rw [← HW3.out, ← HTB.out]
  have hrow3 : w3.rowIs TB 3 n (fun j => .int .i64 (tgK T 0 j)) := by
    rw [HW3.out, HTB.out]
    exact (World.rowIs_made w2 (.int .i64 0) n 3).congr (fun j _ => by simp [tgK])
  have hs3 : w3.heap.size = TB + 1 := by rw [HW3.out, HTB.out]; simp
  have hB3 : Below w2.heap.size w2 w3 := by rw [HW3.out]; exact (Below.refl _ _).alloc (Nat.le_refl _) _
  have HROW3 := Lib.hid hrow3; have HS3 := Lib.hid hs3; have HB3 := Lib.hid hB3
  have htb1 : rb < TB := by rw [HTB.out]; omega
  have htb2 : w.heap.size + 1 < TB := by rw [HTB.out]; omega
  clear hrow3 hs3 hB3
  -- a world that differs in TB alone
  have HK3 : RowKit.Hid (∀ wr, Below TB w3 wr → wr.cell? ⟨w.heap.size, 0, none⟩ = some (.int .i64 n) ∧ wr.cell? ⟨w.heap.size, 1, none⟩ = some (.int .i64 s.lb) ∧ wr.cell? ⟨w.heap.size, 2, none⟩ = some (.int .i64 z) ∧ wr.cell? ⟨w.heap.size, 3, none⟩ = some (.slice a el c) ∧
      wr.heap[w.heap.size + 1]? = some (.cells #[.int .i64 0, .int .i64 0, .int .i64 0, .slice none 0 0] 24 (0, 0)) ∧ wr.rowIs rb 4 n (fun j => .bool (decide ((j : Int) ∈ reachL T))) ∧ TB + 1 ≤ wr.heap.size ∧ Below w.heap.size w wr) := Lib.hid (fun wr hwr => by
    have h1 : ∀ b, b < TB → wr.heap[b]? = w2.heap[b]? := fun b hb => by rw [hwr.block b hb, HB3.out.block b (by rw [← HTB.out]; exact hb)]
    have h2 := (h1 w.heap.size (by omega)).trans HBX2.out
    refine ⟨by simp [World.cell?, h2], by simp [World.cell?, h2], by simp [World.cell?, h2], by simp [World.cell?, h2], (h1 _ (by omega)).trans HRX2.out, HIN.out.of_block (h1 _ (by omega)), by have := hwr.size; have := HS3.out; omega, (HBW.out.trans (HB3.out.mono HBW.out.size)).trans (hwr.mono (by omega))⟩)
  go_loopw [6, 7] (fun v6 v7 wr => ∃ k : Nat, v6 = .int .i64 (cnt (reachL T) (k : Int)) ∧ v7 = .int .i64 k ∧ k ≤ n ∧ wr.rowIs TB 3 n (fun j => .int .i64 (tgK T k j)) ∧ Below TB w3 wr)
    (fun _ v7 _ => n - (intOf v7).toNat)
  case atStart => exact ⟨0, by rw [show ((0 : Nat) : Int) = 0 from rfl, cnt_zero (fun x hx => (reachL_rng hx).1)]; rfl, rfl, Nat.zero_le _, HROW3.out, Below.refl _ _⟩
  case round =>
    obtain ⟨k, rfl, rfl, hk, hrow, hB⟩ := hrel
    obtain ⟨y0, y1, y2, y3, yr, hin, hszr, hbw⟩ := HK3.out wr hB
    have HROW := Lib.hid hrow; have HB := Lib.hid hB; have HI := Lib.hid hin; have HYR := Lib.hid yr; have HBWR := Lib.hid hbw
    have hbl : w.heap.size < wr.heap.size := by omega
    have hcl : cnt (reachL T) (k : Int) ≤ 1000 := by
      have h1 := List.length_filter_le (fun x => decide (x < (k : Int))) (reachL T)
      have h2 := reachL_len (s := T)
      have h3 := HTS.out
      unfold cnt; omega
    obtain ⟨cn, hcn⟩ : ∃ cn, cn = cnt (reachL T) (k : Int) := ⟨_, rfl⟩
    rw [← hcn] at hcl ⊢
    have HCN := Lib.hid hcn
    clear hrow hB yr hbw HROW3 hcn
    by_cases hlt : k < n
    · have hki : (k : Int) < (n : Int) := by omega
      have ci := hin.cell hlt
      have f0 : wr.frozen? ⟨TB, k, none⟩ = false := HROW.out.frozen k
      have c0 := HROW.out.cell hlt
      have hrl : rb < wr.heap.size := hin.lt
      have hTl : TB < wr.heap.size := by omega
      have hcs := cnt_succ (reachL_srt T) (k : Int)
      have hne1 : rb ≠ TB := by omega
      have HCS := Lib.hid hcs
      clear hin hcs
      by_cases hm : (k : Int) ∈ reachL T
      · have hd : decide ((k : Int) ∈ reachL T) = true := by simp [hm]
        rw [hd] at ci
        have HM := Lib.hid hm
        have hto : RowKit.Hid (toOf T (k : Int) = (cn : Int)) := Lib.hid (by rw [toOf_cnt hm, HCN.out])
        clear hd hm
        go_wp2
        go_roundw
        case rel => exact ⟨k + 1, by
            have h1 := HCS.out
            rw [if_pos HM.out, ← HCN.out] at h1
            rw [show ((k + 1 : Nat) : Int) = (k : Int) + 1 by omega, h1]; go_num, by go_num, by omega, ((HROW.out.set k _).set k _).congr (fun j _ => by
            rw [← tgK_step, hto.out]
            by_cases h : j = k
            · rw [if_pos h, if_pos h]
            · rw [if_neg h, if_neg h, if_neg h]), (HB.out.setCell (Nat.le_refl _) _).setCell (Nat.le_refl _) _⟩
        case measure => simp [intOf]; omega
      · have hd : decide ((k : Int) ∈ reachL T) = false := by simp [hm]
        rw [hd] at ci
        have HM := Lib.hid hm
        have hto : RowKit.Hid (toOf T (k : Int) = -1) := Lib.hid (toOf_out hm)
        clear hd hm
        go_wp2
        go_roundw
        case rel => exact ⟨k + 1, by
            have h1 := HCS.out
            rw [if_neg HM.out, ← HCN.out] at h1
            rw [show ((k + 1 : Nat) : Int) = (k : Int) + 1 by omega, h1]; rfl, by go_num, by omega, (HROW.out.set k _).congr (fun j _ => by
            rw [← tgK_step, hto.out]
            by_cases h : j = k
            · rw [if_pos h, if_pos h]
            · rw [if_neg h, if_neg h]), HB.out.setCell (Nat.le_refl _) _⟩
        case measure => simp [intOf]; omega
    · obtain rfl : k = n := by omega
      have hrow : wr.rowIs TB 3 k (fun j => .int .i64 (toOf T (j : Int))) := HROW.out.congr (fun j hj => by unfold tgK; rw [if_pos hj])
      have hcn2 : cn = (reachL T).length := by rw [HCN.out]; exact cnt_all (fun x hx => by have := (reachL_rng hx).2; have := HTS.out; omega)
      have HROW4 := Lib.hid hrow; have HCN2 := Lib.hid hcn2
      have hhx := heap_alloc_new wr (Obj.cells #[.int .i64 cn, .int .i64 s.lb, .int .i64 0, .slice none 0 0] 24)
      have hB4 := (Below.refl wr.heap.size wr).alloc (Nat.le_refl _) (Obj.cells #[.int .i64 cn, .int .i64 s.lb, .int .i64 0, .slice none 0 0] 24)
      clear hrow hcn2 HROW hin
      have hTl : TB < wr.heap.size := by omega
      obtain ⟨S0, hS0⟩ : ∃ S0, S0 = (cut T).s0 := ⟨_, rfl⟩
      have HS0 := Lib.hid hS0
      obtain ⟨O, hO⟩ : ∃ O, O = wr.heap.size := ⟨_, rfl⟩
      have HO := Lib.hid hO
      have HHX := Lib.hid hhx; have HB4 := Lib.hid hB4
      clear hS0 hO hhx hB4
      go_upto_if 40 with fail
      go_cut [8] from 11 (fun s8 wx => s8 = .pointer (some ⟨wr.heap.size, 0, none⟩) ∧ Below wr.heap.size wr wx ∧ wx.heap[wr.heap.size]? = some (.cells #[.int .i64 cn, .int .i64 s.lb, .int .i64 S0, .slice none 0 0] 24 (0, 0)))
      case first =>
        by_cases hz : 0 < cn
        · have hd : decide (0 < cn) = true := by simp [hz]
          have hT0 : T.st ≠ 0 := fun e => by
            have h1 := HCN2.out
            rw [reachL_nil e] at h1; simp at h1; omega
          have hzk : z < k := by have h1 := HTR.out.st0; have h2 := HTS.out; have h3 := HTZ.out; omega
          have hzk2 : (z : Int) < (k : Int) := by omega
          have cz := HROW4.out.cell hzk
          have hs0 : RowKit.Hid (toOf T (z : Int) = S0) := Lib.hid (by
            rw [HS0.out]; simp only [cut]
            rw [if_neg (by have := HCN2.out; omega), HTZ.out])
          clear hT0
          go_wp2_with fail
          go_meet
          refine ⟨rfl, (Below.refl _ _).alloc (Nat.le_refl _) _, ?_⟩
          rw [← hs0.out]
          exact heap_alloc_new wr _
        · have hd : decide (0 < cn) = false := by simp; omega
          have hs0 : S0 = 0 := by
            rw [HS0.out]; simp only [cut]
            rw [if_pos (by have := HCN2.out; omega)]
          subst hs0
          go_wp2_with fail
          go_meet
          exact ⟨rfl, HB4.out, HHX.out⟩
      case rest =>
        obtain ⟨rfl, hB5, hox⟩ := hcut
        have hbc : Below w.heap.size w wc := HBWR.out.trans (hB5.mono HBWR.out.size)
        have hbx3 := (hB5.block _ hbl)
        have z3 : wc.cell? ⟨w.heap.size, 3, none⟩ = some (.slice a el c) := by rw [World.cell?_of_block (w := wr) (a := ⟨w.heap.size, 3, none⟩) hbx3]; exact y3
        have hbl2 : w.heap.size < wc.heap.size := by have := hB5.size; omega
        have HSC := Lib.hid (HSO.out wc hbc)
        have HB5 := Lib.hid hB5; have HOX := Lib.hid hox; have HBC := Lib.hid hbc
        clear hB5 hox hbc hbx3
        go_wp2_with fail
        refine HSC.out.mono ?_
        rintro e w5 ⟨a1, c1, rfl, hown, hBs⟩
        obtain ⟨la, lc, lbk, hv, _, _, hsl, hlb⟩ := slAt_own lenE hown
        simp only [Value.slice.injEq] at hv
        obtain ⟨rfl, _, rfl⟩ := hv
        rw [← HTE.out] at hsl hlb ⊢
        have hl5 : T.es.length ≤ 10000 := by have := HTR.out.st0; omega
        have hsz5 := hBs.size
        have hoc : wr.heap.size < wc.heap.size := (Array.getElem?_eq_some_iff.1 HOX.out).1
        have hK : KW w5 w5 wr.heap.size cn s.lb S0 (.slice none 0 0) (cutK T 0) := by
          refine ⟨fun _ _ _ => rfl, Below.refl _ _, by rw [hBs.block _ hoc]; exact HOX.out, ?_, by omega⟩
          have : cutK T 0 = [] := by simp [cutK]
          rw [this]; exact World.ownsRow_nil _ _ _ _
        have hrowT : w5.rowIs TB 3 k (fun j => .int .i64 (toOf T (j : Int))) := (HROW4.out.of_block (HB5.out.block _ hTl)).of_block (hBs.block _ (by omega))
        have hrowI : w5.rowIs rb 4 k (fun j => .bool (decide ((j : Int) ∈ reachL T))) := (HI.out.of_block (HB5.out.block _ (by omega))).of_block (hBs.block _ (by omega))
        have hrR : w5.heap[w.heap.size + 1]? = some (.cells #[.int .i64 0, .int .i64 0, .int .i64 0, .slice none 0 0] 24 (0, 0)) := by
          rw [hBs.block _ (by omega), HB5.out.block _ (by omega)]; exact HYR.out
        have hb5 : Below w.heap.size w w5 := HBC.out.trans (hBs.mono HBC.out.size)
        have hlb2 : 0 < T.es.length → wr.heap.size < lbk := fun h => by have := hlb h; omega
        have HSL := Lib.hid hsl; have HK := Lib.hid hK; have HRT := Lib.hid hrowT; have HRI := Lib.hid hrowI; have HRR := Lib.hid hrR; have HB5W := Lib.hid hb5; have HLB := Lib.hid hlb2
        clear y0 y1 y2 y3 z3 hown hsl hlb hlb2 hK hrowT hrowI hrR hb5 hBs HK3 HSC HSO
        obtain ⟨tl, htl⟩ : ∃ tl, tl = T.es.length := ⟨_, rfl⟩
        rw [← htl] at hl5 ⊢
        have HTLN := Lib.hid htl
        clear htl
        go_wp2_with fail
        obtain ⟨wq, hwq⟩ : ∃ wq, wq = wr := ⟨_, rfl⟩
        subst hwq
        go_loopw [10] (fun v10 wr => ∃ (i : Nat) (v : Value), i ≤ tl ∧ v10 = .int .i64 i ∧ KW w5 wr wq.heap.size cn s.lb S0 v (cutK T i))
          (fun v10 _ => tl - (intOf v10).toNat)
        case atStart => exact ⟨0, _, Nat.zero_le _, rfl, HK.out⟩
        case round =>
          obtain ⟨i, v, hi, rfl, hk2⟩ := hrel
          have HC := Lib.hid hk2
          have hszx := hk2.bel.size
          have hOl := hk2.lt
          obtain ⟨o0, o1, o2, o3, of3⟩ := hk2.cells
          have ho5 : ∀ b, b < w5.heap.size → b ≠ wq.heap.size → wr.heap[b]? = w5.heap[b]? := hk2.oth
          have hslr : 0 < T.es.length → lbk ≠ wq.heap.size := fun h => by have := HLB.out h; omega
          have HSLR : RowKit.Hid (SlAt encE 3 wr _ lbk 0 T.es) := Lib.hid ⟨HSL.out.ad, fun hp => Nat.lt_of_lt_of_le (HSL.out.lt hp) hszx, fun i x hx j u hu => by
            have hp : 0 < T.es.length := by have := (List.getElem?_eq_some_iff.1 hx).1; omega
            rw [World.cell?_of_block (w := w5) (a := ⟨lbk, 0 + i * 3 + j, none⟩) (ho5 lbk (HSL.out.lt hp) (hslr hp))]
            exact HSL.out.cell i x hx j u hu⟩
          have hrT : wr.rowIs TB 3 k (fun j => .int .i64 (toOf T (j : Int))) := HRT.out.of_block (ho5 TB (by omega) (by omega))
          have hrI : wr.rowIs rb 4 k (fun j => .bool (decide ((j : Int) ∈ reachL T))) := HRI.out.of_block (ho5 rb (by omega) (by omega))
          have HRT2 := Lib.hid hrT; have HRI2 := Lib.hid hrI
          clear HK hk2 ho5 hrT hrI
          by_cases hlt : i < tl
          · have hlt2 : i < T.es.length := by rw [← HTLN.out]; exact hlt
            obtain ⟨x, hx⟩ := getElem?_of_lt hlt2
            obtain rfl := HSLR.out.ad (by omega)
            have d0 := HSLR.out.e0 hx; have d1 := HSLR.out.e1 hx; have d2 := HSLR.out.e2 hx
            simp only [Nat.zero_add] at d0 d1 d2
            have hlbl := HSLR.out.lt (by omega)
            have hlbl5 := HSL.out.lt (by omega)
            have hxr := offB_false.1 (HTR.out.edges x (List.mem_of_getElem? hx))
            have hstk := HTS.out
            obtain ⟨x1, x2, x3⟩ := x
            simp only at hxr d0 d1 d2
            obtain ⟨a1, rfl⟩ := Int.eq_ofNat_of_zero_le hxr.1
            obtain ⟨a3, rfl⟩ := Int.eq_ofNat_of_zero_le hxr.2.2.2.2.1
            have ha1 : a1 < k := by omega
            have ha3 : a3 < k := by omega
            have ha1' : (a1 : Int) < (k : Int) := by omega
            have ha3' : (a3 : Int) < (k : Int) := by omega
            have hct1 := HRT2.out.cell ha1
            have hct3 := HRT2.out.cell ha3
            have hci := HRI2.out.cell ha1
            have hTBl := HRT2.out.lt
            have hrbl := HRI2.out.lt
            have HX := Lib.hid hx
            obtain ⟨f1, hf1⟩ : ∃ f1, f1 = toOf T (a1 : Int) := ⟨_, rfl⟩
            obtain ⟨f3, hf3⟩ : ∃ f3, f3 = toOf T (a3 : Int) := ⟨_, rfl⟩
            rw [← hf1] at hct1; rw [← hf3] at hct3
            have HF1 := Lib.hid hf1; have HF3 := Lib.hid hf3
            have hilt : (i : Int) < (tl : Int) := by omega
            have hcl := cutK_len T i
            have hcl2 : (cutK T i).length ≤ 10000 := by have := HTLN.out; omega
            clear hx hxr hf1 hf3 hstk hcl
            by_cases hm : (a1 : Int) ∈ reachL T
            · have hd : decide ((a1 : Int) ∈ reachL T) = true := by simp [hm]
              rw [hd] at hci
              have hck := cutK_yes HX.out (by have := (toOf_in hm).2.1; exact this)
              simp only [← HF1.out, ← HF3.out] at hck
              have HCK := Lib.hid hck
              have nT : some TB ≠ v.ownBlock := fun e => by have := (HC.out.own.lt _ e.symm).1; omega
              have nL : some lbk ≠ v.ownBlock := fun e => by have := (HC.out.own.lt _ e.symm).1; omega
              have mT : TB ≠ wq.heap.size := by omega
              have mL : lbk ≠ wq.heap.size := hslr (by omega)
              have hOlr : wq.heap.size < wr.heap.size := by omega
              clear hd hm hck
              go_wp2_with fail
              refine wp_region_held_drew (S := (fun w' => w'.cell? ⟨TB, a1, none⟩ = some (.int .i64 f1) ∧ w'.cell? ⟨TB, a3, none⟩ = some (.int .i64 f3) ∧ w'.cell? ⟨lbk, i * 3, none⟩ = some (.int .i64 a1) ∧ w'.cell? ⟨lbk, i * 3 + 1, none⟩ = some (.int .i64 x2) ∧ w'.cell? ⟨lbk, i * 3 + 2, none⟩ = some (.int .i64 a3))) (by kernel_rfl) (by (try dsimp only); (first | go_keep | (go_split_ands; exact ⟨by rw [hg8.cell_far _ (by simp; omega) nT]; assumption, by rw [hg8.cell_far _ (by simp; omega) nT]; assumption, by rw [hg8.cell_far _ (by simp; omega) nL]; assumption, by rw [hg8.cell_far _ (by simp; omega) nL]; assumption, by rw [hg8.cell_far _ (by simp; omega) nL]; assumption⟩) | (go_split_ands; exact ⟨by rw [cell_setOther' _ _ mT]; assumption, by rw [cell_setOther' _ _ mT]; assumption, by rw [cell_setOther' _ _ mL]; assumption, by rw [cell_setOther' _ _ mL]; assumption, by rw [cell_setOther' _ _ mL]; assumption⟩))) (fun hHeld => ?_)
              refine wpAnyH_take (i := 0) (v := ?_) rfl (by kernel_rfl) (by kernel_rfl) (by kernel_rfl) (fun _ _ _ h => h) (Or.inl ⟨by rfl, ?_⟩) (by assumption) ?_
              rotate_left
              · intro w hSw
                try dsimp only at hSw
                go_simp
                try with_reducible rfl
              try simp only [List.getElem_toArray, List.getElem_cons_zero, List.getElem_cons_succ, Act.put, List.setIfInBounds_toArray, List.set_cons_zero, List.set_cons_succ]
              refine wpAnyH_take (i := 2) (v := ?_) rfl (by kernel_rfl) (by kernel_rfl) (by kernel_rfl) (fun _ _ _ h => h) (Or.inl ⟨by rfl, ?_⟩) (by assumption) ?_
              rotate_left
              · intro w hSw
                try dsimp only at hSw
                go_simp
                try with_reducible rfl
              try simp only [List.getElem_toArray, List.getElem_cons_zero, List.getElem_cons_succ, Act.put, List.setIfInBounds_toArray, List.set_cons_zero, List.set_cons_succ]
              refine wpAnyH_take (i := 3) (v := ?_) rfl (by kernel_rfl) (by kernel_rfl) (by kernel_rfl) (fun _ _ _ h => h) (Or.inl ⟨by rfl, ?_⟩) (by assumption) ?_
              rotate_left
              · intro w hSw
                try dsimp only at hSw
                go_simp
                try with_reducible rfl
              try simp only [List.getElem_toArray, List.getElem_cons_zero, List.getElem_cons_succ, Act.put, List.setIfInBounds_toArray, List.set_cons_zero, List.set_cons_succ]
              refine wpAnyH_take (i := 4) (v := ?_) rfl (by kernel_rfl) (by kernel_rfl) (by kernel_rfl) (fun _ _ _ h => h) (Or.inl ⟨by rfl, ?_⟩) (by assumption) ?_
              rotate_left
              · intro w hSw
                try dsimp only at hSw
                go_simp
                try with_reducible rfl
              try simp only [List.getElem_toArray, List.getElem_cons_zero, List.getElem_cons_succ, Act.put, List.setIfInBounds_toArray, List.set_cons_zero, List.set_cons_succ]
              refine wpAnyH_take (i := 5) (v := ?_) rfl (by kernel_rfl) (by kernel_rfl) (by kernel_rfl) (fun _ _ _ h => h) (Or.inl ⟨by rfl, ?_⟩) (by assumption) ?_
              rotate_left
              · intro w hSw
                try dsimp only at hSw
                go_simp
                try with_reducible rfl
              try simp only [List.getElem_toArray, List.getElem_cons_zero, List.getElem_cons_succ, Act.put, List.setIfInBounds_toArray, List.set_cons_zero, List.set_cons_succ]
              refine wpAnyH_take (i := 6) (v := ?_) rfl (by kernel_rfl) (by kernel_rfl) (by kernel_rfl) (fun _ _ _ h => h) (Or.inl ⟨by rfl, ?_⟩) (by assumption) ?_
              rotate_left
              · intro w hSw
                try dsimp only at hSw
                go_simp
                try with_reducible rfl
              try simp only [List.getElem_toArray, List.getElem_cons_zero, List.getElem_cons_succ, Act.put, List.setIfInBounds_toArray, List.set_cons_zero, List.set_cons_succ]
              refine wpAnyH_take (i := 7) (v := ?_) rfl (by kernel_rfl) (by kernel_rfl) (by kernel_rfl) (fun _ _ _ h => h) (Or.inl ⟨by rfl, ?_⟩) (by assumption) ?_
              rotate_left
              · intro w hSw
                try dsimp only at hSw
                go_simp
                try with_reducible rfl
              try simp only [List.getElem_toArray, List.getElem_cons_zero, List.getElem_cons_succ, Act.put, List.setIfInBounds_toArray, List.set_cons_zero, List.set_cons_succ]
              refine wpAnyH_take (i := 8) (v := ?_) rfl (by kernel_rfl) (by kernel_rfl) (by kernel_rfl) (fun _ _ _ h => h) (Or.inl ⟨by rfl, ?_⟩) (by assumption) ?_
              rotate_left
              · intro w hSw
                try dsimp only at hSw
                go_simp
                try with_reducible rfl
              try simp only [List.getElem_toArray, List.getElem_cons_zero, List.getElem_cons_succ, Act.put, List.setIfInBounds_toArray, List.set_cons_zero, List.set_cons_succ]
              refine wpAnyH_take (i := 9) (v := ?_) rfl (by kernel_rfl) (by kernel_rfl) (by kernel_rfl) (fun _ _ _ h => h) (Or.inl ⟨by rfl, ?_⟩) (by assumption) ?_
              rotate_left
              · intro w hSw
                try dsimp only at hSw
                go_simp
                try with_reducible rfl
              try simp only [List.getElem_toArray, List.getElem_cons_zero, List.getElem_cons_succ, Act.put, List.setIfInBounds_toArray, List.set_cons_zero, List.set_cons_succ]
              refine wpAnyH_take (i := 10) (v := ?_) rfl (by kernel_rfl) (by kernel_rfl) (by kernel_rfl) (fun _ _ _ h => h) (Or.inl ⟨by rfl, ?_⟩) (by assumption) ?_
              rotate_left
              · intro w hSw
                try dsimp only at hSw
                go_simp
                try with_reducible rfl
              try simp only [List.getElem_toArray, List.getElem_cons_zero, List.getElem_cons_succ, Act.put, List.setIfInBounds_toArray, List.set_cons_zero, List.set_cons_succ]
              refine wpAnyH_take (i := 11) (v := ?_) rfl (by kernel_rfl) (by kernel_rfl) (by kernel_rfl) (fun _ _ _ h => h) (Or.inl ⟨by rfl, ?_⟩) (by assumption) ?_
              rotate_left
              · intro w hSw
                try dsimp only at hSw
                go_simp
                try with_reducible rfl
              try simp only [List.getElem_toArray, List.getElem_cons_zero, List.getElem_cons_succ, Act.put, List.setIfInBounds_toArray, List.set_cons_zero, List.set_cons_succ]
              refine wpAnyH_take (i := 12) (v := ?_) rfl (by kernel_rfl) (by kernel_rfl) (by kernel_rfl) (fun _ _ _ h => h) (Or.inl ⟨by rfl, ?_⟩) (by assumption) ?_
              rotate_left
              · intro w hSw
                try dsimp only at hSw
                go_simp
                try with_reducible rfl
              try simp only [List.getElem_toArray, List.getElem_cons_zero, List.getElem_cons_succ, Act.put, List.setIfInBounds_toArray, List.set_cons_zero, List.set_cons_succ]
              refine wpAnyH_take (i := 13) (v := ?_) rfl (by kernel_rfl) (by kernel_rfl) (by kernel_rfl) (fun _ _ _ h => h) (Or.inl ⟨by rfl, ?_⟩) (by assumption) ?_
              rotate_left
              · intro w hSw
                try dsimp only at hSw
                go_simp
                try with_reducible rfl
              try simp only [List.getElem_toArray, List.getElem_cons_zero, List.getElem_cons_succ, Act.put, List.setIfInBounds_toArray, List.set_cons_zero, List.set_cons_succ]
              refine wpAnyH_take (i := 14) (v := ?_) rfl (by kernel_rfl) (by kernel_rfl) (by kernel_rfl) (fun _ _ _ h => h) (Or.inl ⟨by rfl, ?_⟩) (by assumption) ?_
              rotate_left
              · intro w hSw
                try dsimp only at hSw
                go_simp
                try with_reducible rfl
              try simp only [List.getElem_toArray, List.getElem_cons_zero, List.getElem_cons_succ, Act.put, List.setIfInBounds_toArray, List.set_cons_zero, List.set_cons_succ]
              refine wpAnyH_take (i := 15) (v := ?_) rfl (by kernel_rfl) (by kernel_rfl) (by kernel_rfl) (fun _ _ _ h => h) (Or.inl ⟨by rfl, ?_⟩) (by assumption) ?_
              rotate_left
              · intro w hSw
                try dsimp only at hSw
                go_simp
                try with_reducible rfl
              try simp only [List.getElem_toArray, List.getElem_cons_zero, List.getElem_cons_succ, Act.put, List.setIfInBounds_toArray, List.set_cons_zero, List.set_cons_succ]
              refine wpAnyH_take (i := 16) (v := ?_) rfl (by kernel_rfl) (by kernel_rfl) (by kernel_rfl) (fun _ _ _ h => h) (Or.inl ⟨by rfl, ?_⟩) (by assumption) ?_
              rotate_left
              · intro w hSw
                try dsimp only at hSw
                go_simp
                try with_reducible rfl
              try simp only [List.getElem_toArray, List.getElem_cons_zero, List.getElem_cons_succ, Act.put, List.setIfInBounds_toArray, List.set_cons_zero, List.set_cons_succ]
              refine wpAnyH_take (i := 17) (v := ?_) rfl (by kernel_rfl) (by kernel_rfl) (by kernel_rfl) (fun _ _ _ h => h) (Or.inl ⟨by rfl, ?_⟩) (by assumption) ?_
              rotate_left
              · intro w hSw
                try dsimp only at hSw
                go_simp
                try with_reducible rfl
              try simp only [List.getElem_toArray, List.getElem_cons_zero, List.getElem_cons_succ, Act.put, List.setIfInBounds_toArray, List.set_cons_zero, List.set_cons_succ]
              refine wpAnyH_take (i := 18) (v := ?_) rfl (by kernel_rfl) (by kernel_rfl) (by kernel_rfl) (fun _ _ _ h => h) (Or.inl ⟨by rfl, ?_⟩) (by assumption) ?_
              rotate_left
              · intro w hSw
                try dsimp only at hSw
                go_simp
                try with_reducible rfl
              try simp only [List.getElem_toArray, List.getElem_cons_zero, List.getElem_cons_succ, Act.put, List.setIfInBounds_toArray, List.set_cons_zero, List.set_cons_succ]
              refine wpAnyH_take (i := 19) (v := ?_) rfl (by kernel_rfl) (by kernel_rfl) (by kernel_rfl) (fun _ _ _ h => h) (Or.inl ⟨by rfl, ?_⟩) (by assumption) ?_
              rotate_left
              · intro w hSw
                try dsimp only at hSw
                go_simp
                try with_reducible rfl
              try simp only [List.getElem_toArray, List.getElem_cons_zero, List.getElem_cons_succ, Act.put, List.setIfInBounds_toArray, List.set_cons_zero, List.set_cons_succ]
              refine wpAnyH_take (i := 20) (v := ?_) rfl (by kernel_rfl) (by kernel_rfl) (by kernel_rfl) (fun _ _ _ h => h) (Or.inl ⟨by rfl, ?_⟩) (by assumption) ?_
              rotate_left
              · intro w hSw
                try dsimp only at hSw
                go_simp
                try with_reducible rfl
              try simp only [List.getElem_toArray, List.getElem_cons_zero, List.getElem_cons_succ, Act.put, List.setIfInBounds_toArray, List.set_cons_zero, List.set_cons_succ]
              refine wpAnyH_take (i := 21) (v := ?_) rfl (by kernel_rfl) (by kernel_rfl) (by kernel_rfl) (fun _ _ _ h => h) (Or.inl ⟨by rfl, ?_⟩) (by assumption) ?_
              rotate_left
              · intro w hSw
                try dsimp only at hSw
                go_simp
                try with_reducible rfl
              try simp only [List.getElem_toArray, List.getElem_cons_zero, List.getElem_cons_succ, Act.put, List.setIfInBounds_toArray, List.set_cons_zero, List.set_cons_succ]
              refine wpAnyH_take (i := 22) (v := ?_) rfl (by kernel_rfl) (by kernel_rfl) (by kernel_rfl) (fun _ _ _ h => h) (Or.inl ⟨by rfl, ?_⟩) (by assumption) ?_
              rotate_left
              · intro w hSw
                try dsimp only at hSw
                go_simp
                try with_reducible rfl
              try simp only [List.getElem_toArray, List.getElem_cons_zero, List.getElem_cons_succ, Act.put, List.setIfInBounds_toArray, List.set_cons_zero, List.set_cons_succ]
              refine wpAnyH_take (i := 23) (v := ?_) rfl (by kernel_rfl) (by kernel_rfl) (by kernel_rfl) (fun _ _ _ h => h) (Or.inl ⟨by rfl, ?_⟩) (by assumption) ?_
              rotate_left
              · intro w hSw
                try dsimp only at hSw
                go_simp
                try with_reducible rfl
              try simp only [List.getElem_toArray, List.getElem_cons_zero, List.getElem_cons_succ, Act.put, List.setIfInBounds_toArray, List.set_cons_zero, List.set_cons_succ]
              refine wpAnyH_ready (rs := [1, 24]) (by kernel_rfl) (by simp) ?_
              refine AllReadyH.cons rfl (fun K hK => ?_) (AllReadyH.cons rfl (fun K hK => ?_) AllReadyH.nil)
              go_simp
              refine hK.out _ _ (by (try dsimp only); (first | go_keep | (go_split_ands; exact ⟨by rw [hg8.cell_far _ (by simp; omega) nT]; assumption, by rw [hg8.cell_far _ (by simp; omega) nT]; assumption, by rw [hg8.cell_far _ (by simp; omega) nL]; assumption, by rw [hg8.cell_far _ (by simp; omega) nL]; assumption, by rw [hg8.cell_far _ (by simp; omega) nL]; assumption⟩) | (go_split_ands; exact ⟨by rw [cell_setOther' _ _ mT]; assumption, by rw [cell_setOther' _ _ mT]; assumption, by rw [cell_setOther' _ _ mL]; assumption, by rw [cell_setOther' _ _ mL]; assumption, by rw [cell_setOther' _ _ mL]; assumption⟩))) (fun hHeld => ?_)
              clear hK K
              try simp only [List.getElem_toArray, List.getElem_cons_zero, List.getElem_cons_succ, Act.put, List.setIfInBounds_toArray, List.set_cons_zero, List.set_cons_succ]
              refine wpAnyH_ready (rs := [24]) (by kernel_rfl) (by simp) ?_
              refine AllReadyH.cons rfl (fun K hK => ?_) AllReadyH.nil
              go_simp
              refine hK.out _ _ (by (try dsimp only); (first | go_keep | (go_split_ands; exact ⟨by rw [hg8.cell_far _ (by simp; omega) nT]; assumption, by rw [hg8.cell_far _ (by simp; omega) nT]; assumption, by rw [hg8.cell_far _ (by simp; omega) nL]; assumption, by rw [hg8.cell_far _ (by simp; omega) nL]; assumption, by rw [hg8.cell_far _ (by simp; omega) nL]; assumption⟩) | (go_split_ands; exact ⟨by rw [cell_setOther' _ _ mT]; assumption, by rw [cell_setOther' _ _ mT]; assumption, by rw [cell_setOther' _ _ mL]; assumption, by rw [cell_setOther' _ _ mL]; assumption, by rw [cell_setOther' _ _ mL]; assumption⟩))) (fun hHeld => ?_)
              clear hK K
              try simp only [List.getElem_toArray, List.getElem_cons_zero, List.getElem_cons_succ, Act.put, List.setIfInBounds_toArray, List.set_cons_zero, List.set_cons_succ]
              refine wpAnyH_ready (rs := [25]) (by kernel_rfl) (by simp) ?_
              refine AllReadyH.cons rfl (fun K hK => ?_) AllReadyH.nil
              (refine step_app1 rfl _ _ _ (by rfl) rowE (by rfl) (World.ownsRow.drew (HC.out.own.alloc _)) ⟨wr.heap.size, 0, none⟩ 1 1 [.int .i64 f1, .int .i64 x2, .int .i64 f3] (by rfl) (by rfl) (cells3 (by simp [go_sem]) (by simp [go_sem]) (by simp [go_sem])) (by simp [Value.oneCell']) (by decide) (by omega) (by unfold maxLen; omega) (by simp; omega) ?_; intro g cap w8 hown8 hg8; have kp := KW.keepc (HC.out.call (((Below.refl _ _).alloc (Nat.le_refl _) _).drew)) hg8; have kp0 := kp.1; have kp1 := kp.2; clear kp)
              refine hK.out _ _ (by (try dsimp only); (first | go_keep | (go_split_ands; exact ⟨by rw [hg8.cell_far _ (by simp; omega) nT]; assumption, by rw [hg8.cell_far _ (by simp; omega) nT]; assumption, by rw [hg8.cell_far _ (by simp; omega) nL]; assumption, by rw [hg8.cell_far _ (by simp; omega) nL]; assumption, by rw [hg8.cell_far _ (by simp; omega) nL]; assumption⟩) | (go_split_ands; exact ⟨by rw [cell_setOther' _ _ mT]; assumption, by rw [cell_setOther' _ _ mT]; assumption, by rw [cell_setOther' _ _ mL]; assumption, by rw [cell_setOther' _ _ mL]; assumption, by rw [cell_setOther' _ _ mL]; assumption⟩))) (fun hHeld => ?_)
              clear hK K
              try simp only [List.getElem_toArray, List.getElem_cons_zero, List.getElem_cons_succ, Act.put, List.setIfInBounds_toArray, List.set_cons_zero, List.set_cons_succ]
              refine wpAnyH_take (i := 26) (v := ?_) rfl (by kernel_rfl) (by kernel_rfl) (by kernel_rfl) (fun _ _ _ h => h) (Or.inl ⟨by rfl, ?_⟩) (by assumption) ?_
              rotate_left
              · intro w hSw
                try dsimp only at hSw
                go_simp
                try with_reducible rfl
              try simp only [List.getElem_toArray, List.getElem_cons_zero, List.getElem_cons_succ, Act.put, List.setIfInBounds_toArray, List.set_cons_zero, List.set_cons_succ]
              refine wpAnyH_ready (rs := [27]) (by kernel_rfl) (by simp) ?_
              refine AllReadyH.cons rfl (fun K hK => ?_) AllReadyH.nil
              go_simp
              refine hK.out _ _ (by (try dsimp only); (first | go_keep | (go_split_ands; exact ⟨by rw [hg8.cell_far _ (by simp; omega) nT]; assumption, by rw [hg8.cell_far _ (by simp; omega) nT]; assumption, by rw [hg8.cell_far _ (by simp; omega) nL]; assumption, by rw [hg8.cell_far _ (by simp; omega) nL]; assumption, by rw [hg8.cell_far _ (by simp; omega) nL]; assumption⟩) | (go_split_ands; exact ⟨by rw [cell_setOther' _ _ mT]; assumption, by rw [cell_setOther' _ _ mT]; assumption, by rw [cell_setOther' _ _ mL]; assumption, by rw [cell_setOther' _ _ mL]; assumption, by rw [cell_setOther' _ _ mL]; assumption⟩))) (fun hHeld => ?_)
              clear hK K
              try simp only [List.getElem_toArray, List.getElem_cons_zero, List.getElem_cons_succ, Act.put, List.setIfInBounds_toArray, List.set_cons_zero, List.set_cons_succ]
              refine wpAnyH_done (by kernel_rfl) ?_ _
              rotate_left
              go_simp
              refine hK.out _ _ (by (try dsimp only); (first | go_keep | (go_split_ands; exact ⟨by rw [hg8.cell_far _ (by simp; omega) nT]; assumption, by rw [hg8.cell_far _ (by simp; omega) nT]; assumption, by rw [hg8.cell_far _ (by simp; omega) nL]; assumption, by rw [hg8.cell_far _ (by simp; omega) nL]; assumption, by rw [hg8.cell_far _ (by simp; omega) nL]; assumption⟩) | (go_split_ands; exact ⟨by rw [cell_setOther' _ _ mT]; assumption, by rw [cell_setOther' _ _ mT]; assumption, by rw [cell_setOther' _ _ mL]; assumption, by rw [cell_setOther' _ _ mL]; assumption, by rw [cell_setOther' _ _ mL]; assumption⟩))) (fun hHeld => ?_)
              clear hK K
              try simp only [List.getElem_toArray, List.getElem_cons_zero, List.getElem_cons_succ, Act.put, List.setIfInBounds_toArray, List.set_cons_zero, List.set_cons_succ]
              refine wpAnyH_ready (rs := [1]) (by kernel_rfl) (by simp) ?_
              refine AllReadyH.cons rfl (fun K hK => ?_) AllReadyH.nil
              go_simp
              refine hK.out _ _ (by (try dsimp only); (first | go_keep | (go_split_ands; exact ⟨by rw [hg8.cell_far _ (by simp; omega) nT]; assumption, by rw [hg8.cell_far _ (by simp; omega) nT]; assumption, by rw [hg8.cell_far _ (by simp; omega) nL]; assumption, by rw [hg8.cell_far _ (by simp; omega) nL]; assumption, by rw [hg8.cell_far _ (by simp; omega) nL]; assumption⟩) | (go_split_ands; exact ⟨by rw [cell_setOther' _ _ mT]; assumption, by rw [cell_setOther' _ _ mT]; assumption, by rw [cell_setOther' _ _ mL]; assumption, by rw [cell_setOther' _ _ mL]; assumption, by rw [cell_setOther' _ _ mL]; assumption⟩))) (fun hHeld => ?_)
              clear hK K
              try simp only [List.getElem_toArray, List.getElem_cons_zero, List.getElem_cons_succ, Act.put, List.setIfInBounds_toArray, List.set_cons_zero, List.set_cons_succ]
              refine wpAnyH_ready (rs := [25]) (by kernel_rfl) (by simp) ?_
              refine AllReadyH.cons rfl (fun K hK => ?_) AllReadyH.nil
              (refine step_app1 rfl _ _ _ (by rfl) rowE (by rfl) (World.ownsRow.drew (HC.out.own.alloc _)) ⟨wr.heap.size, 0, none⟩ 1 1 [.int .i64 f1, .int .i64 x2, .int .i64 f3] (by rfl) (by rfl) (cells3 (by simp [go_sem]) (by simp [go_sem]) (by simp [go_sem])) (by simp [Value.oneCell']) (by decide) (by omega) (by unfold maxLen; omega) (by simp; omega) ?_; intro g cap w8 hown8 hg8; have kp := KW.keepc (HC.out.call (((Below.refl _ _).alloc (Nat.le_refl _) _).drew)) hg8; have kp0 := kp.1; have kp1 := kp.2; clear kp)
              refine hK.out _ _ (by (try dsimp only); (first | go_keep | (go_split_ands; exact ⟨by rw [hg8.cell_far _ (by simp; omega) nT]; assumption, by rw [hg8.cell_far _ (by simp; omega) nT]; assumption, by rw [hg8.cell_far _ (by simp; omega) nL]; assumption, by rw [hg8.cell_far _ (by simp; omega) nL]; assumption, by rw [hg8.cell_far _ (by simp; omega) nL]; assumption⟩) | (go_split_ands; exact ⟨by rw [cell_setOther' _ _ mT]; assumption, by rw [cell_setOther' _ _ mT]; assumption, by rw [cell_setOther' _ _ mL]; assumption, by rw [cell_setOther' _ _ mL]; assumption, by rw [cell_setOther' _ _ mL]; assumption⟩))) (fun hHeld => ?_)
              clear hK K
              try simp only [List.getElem_toArray, List.getElem_cons_zero, List.getElem_cons_succ, Act.put, List.setIfInBounds_toArray, List.set_cons_zero, List.set_cons_succ]
              refine wpAnyH_take (i := 26) (v := ?_) rfl (by kernel_rfl) (by kernel_rfl) (by kernel_rfl) (fun _ _ _ h => h) (Or.inl ⟨by rfl, ?_⟩) (by assumption) ?_
              rotate_left
              · intro w hSw
                try dsimp only at hSw
                go_simp
                try with_reducible rfl
              try simp only [List.getElem_toArray, List.getElem_cons_zero, List.getElem_cons_succ, Act.put, List.setIfInBounds_toArray, List.set_cons_zero, List.set_cons_succ]
              refine wpAnyH_ready (rs := [27]) (by kernel_rfl) (by simp) ?_
              refine AllReadyH.cons rfl (fun K hK => ?_) AllReadyH.nil
              go_simp
              refine hK.out _ _ (by (try dsimp only); (first | go_keep | (go_split_ands; exact ⟨by rw [hg8.cell_far _ (by simp; omega) nT]; assumption, by rw [hg8.cell_far _ (by simp; omega) nT]; assumption, by rw [hg8.cell_far _ (by simp; omega) nL]; assumption, by rw [hg8.cell_far _ (by simp; omega) nL]; assumption, by rw [hg8.cell_far _ (by simp; omega) nL]; assumption⟩) | (go_split_ands; exact ⟨by rw [cell_setOther' _ _ mT]; assumption, by rw [cell_setOther' _ _ mT]; assumption, by rw [cell_setOther' _ _ mL]; assumption, by rw [cell_setOther' _ _ mL]; assumption, by rw [cell_setOther' _ _ mL]; assumption⟩))) (fun hHeld => ?_)
              clear hK K
              try simp only [List.getElem_toArray, List.getElem_cons_zero, List.getElem_cons_succ, Act.put, List.setIfInBounds_toArray, List.set_cons_zero, List.set_cons_succ]
              refine wpAnyH_done (by kernel_rfl) ?_ _
              all_goals
                have h1 := KW.setEs (v' := .slice (some ⟨g, 0, none⟩) ((cutK T i).length + 1) cap) (es' := cutK T i ++ [(f1, x2, f3)]) (HC.out.call (((Below.refl _ _).alloc (Nat.le_refl _) _).drew)) (by rw [List.length_append, List.flatMap_append]; exact hown8) hg8
                rw [← HCK.out] at h1
                have H1 := Lib.hid h1
                clear h1 hown8 hg8 nT nL kp1 kp0 mT mL
                go_wp2
                go_roundw
                case rel => exact ⟨i + 1, _, by omega, by go_num, H1.out⟩
                case measure => simp [intOf]; omega
            · have hd : decide ((a1 : Int) ∈ reachL T) = false := by simp [hm]
              rw [hd] at hci
              have hck := cutK_no HX.out (by rw [toOf_out hm]; omega)
              have HCK := Lib.hid hck
              clear hd hm hck
              go_wp2
              go_roundw
              case rel => exact ⟨i + 1, v, by omega, by go_num, by rw [HCK.out]; exact HC.out⟩
              case measure => simp [intOf]; omega
          · obtain rfl : i = tl := by omega
            have hrr := (HC.out.oth (w.heap.size + 1) (by omega) (by omega)).trans HRR.out
            have z0 : wr.cell? ⟨w.heap.size + 1, 0, none⟩ = some (.int .i64 0) := by simp [World.cell?, hrr]
            have z1 : wr.cell? ⟨w.heap.size + 1, 1, none⟩ = some (.int .i64 0) := by simp [World.cell?, hrr]
            have z2 : wr.cell? ⟨w.heap.size + 1, 2, none⟩ = some (.int .i64 0) := by simp [World.cell?, hrr]
            have z3 : wr.cell? ⟨w.heap.size + 1, 3, none⟩ = some (.slice none 0 0) := by simp [World.cell?, hrr]
            have zf : ∀ j, wr.frozen? ⟨w.heap.size + 1, j, none⟩ = false := fun j => by simp [World.frozen?, hrr]
            have zf0 := zf 0; have zf1 := zf 1; have zf2 := zf 2; have zf3 := zf 3
            have hRl : w.heap.size + 1 < wr.heap.size := by omega
            have hOlr : wq.heap.size < wr.heap.size := by omega
            obtain ⟨ga, gn, gc, hv⟩ := own_slice HC.out.own
            subst hv
            have hne : ¬ wq.heap.size = w.heap.size + 1 := by omega
            clear hrr zf
            go_wp2
            have hown : (World.ownsRow _ w5.heap.size 35 3 _ _ _) := HC.out.own
            rw [HTLN.out, cutK_all] at hown
            have hown := own_mono hown (show TB + 1 ≤ w5.heap.size by omega)
            have hbel : Below w.heap.size w wr := HB5W.out.trans (HC.out.bel.mono (by omega))
            refine bodyPost_ret (v := .tuple #[.agg #[.int .i64 cn, .int .i64 s.lb, .int .i64 S0, .slice ga gn gc], .slice (some ⟨TB, 0, none⟩) k k]) (by simp [results, Tryd.results30, go_sem, z0, z1, z2, z3]) rfl ⟨.slice ga gn gc, TB, by rw [HS0.out, ← HTL.out, HCN2.out]; rfl, ?_, ?_, by omega, ?_⟩
            · exact ownsRow_setCell_below (ownsRow_setCell_below (ownsRow_setCell_below (ownsRow_setCell_below hown (by show w.heap.size + 1 < TB + 1; omega) _) (by show w.heap.size + 1 < TB + 1; omega) _) (by show w.heap.size + 1 < TB + 1; omega) _) (by show w.heap.size + 1 < TB + 1; omega) _
            · exact (((HRT2.out.setOther (by show TB ≠ w.heap.size + 1; omega) _).setOther (by show TB ≠ w.heap.size + 1; omega) _).setOther (by show TB ≠ w.heap.size + 1; omega) _).setOther (by show TB ≠ w.heap.size + 1; omega) _
            · exact (((hbel.setCell (by show w.heap.size ≤ w.heap.size + 1; omega) _).setCell (by show w.heap.size ≤ w.heap.size + 1; omega) _).setCell (by show w.heap.size ≤ w.heap.size + 1; omega) _).setCell (by show w.heap.size ≤ w.heap.size + 1; omega) _
end Go.Proofs.YtbbjmompbmgnmaaDoor

/-
  witness: byClasses.meets: whether a state meets a step.
-/
import Derived.Test.YtclannenknhfpaaGreatDoorGRefSil
import Derived.Deep.RegionLaw
import Derived.Deep.DrawnRows
namespace Go.Proofs.YtclannenknhfpaaGreatDoor
open Go.RowKit Pl

attribute [local go_sem ↓] Go.wp_at_zero Go.wp_at_succ

/-- The relation of classes in memory: the classes, of each state the map of what it does. -/
structure RelAt (w : World) (s : Lts) (n : Nat) (C : List Int) (ca : Option Addr) (cb co : Nat) (da : Option Addr) (db : Nat) (ms : List Value) (D : Nat → List S) : Prop where
  cls : SlAt encI 1 w ca cb co C
  row : SlAt encV 1 w da db 0 ms
  len : ms.length = n
  maps : ∀ q, q < n → ∃ mb k, ms[q]? = some (.map (some mb)) ∧ OMap w mb encSv okS encU (addU (fun _ => none) (D q)) k
theorem RelAt.below {w w' : World} {s : Lts} {n : Nat} {C : List Int} {ca : Option Addr} {cb co : Nat} {da : Option Addr} {db : Nat} {ms : List Value} {D : Nat → List S} (h : RelAt w s n C ca cb co da db ms D) (hB : Below w.heap.size w w') : RelAt w' s n C ca cb co da db ms D :=
  ⟨h.cls.below hB (Nat.le_refl _), h.row.below hB (Nat.le_refl _), h.len, fun q hq => by
    obtain ⟨mb, k, h1, h2⟩ := h.maps q hq
    exact ⟨mb, k, h1, h2.of_block (hB.block _ h2.lt)⟩⟩

theorem addU_isSome (L : List S) (x : S) : (addU (fun _ => none) L x).isSome = decide (x ∈ L) := by
  unfold addU
  by_cases h : x ∈ L <;> simp [h]

set_option maxRecDepth 100000 in
set_option maxHeartbeats 2000000 in
theorem meets_any {w : World} {s : Lts} {n : Nat} {C : List Int} {ca : Option Addr} {cb co cc : Nat} {da : Option Addr} {db dc : Nat} {ms : List Value} {D : Nat → List S} (hR : RelAt w s n C ca cb co da db ms D) (hC : Cls s n C) (hn : n ≤ 1000) {q t : Nat} (hq : q < n) (ht : t < n) {l : Int} (hl : (Lit.int .i64 l).wf = true) :
    Calls Tryz.prog 158 #[.agg #[.slice ca n cc, .slice da n dc], .int .i64 q, .agg #[.int .i64 l, .int .i64 t]] w fun e w' => e = .returned (.bool (decide ((l, atL C (t : Int)) ∈ D q))) ∧ Below w.heap.size w w' := by
  obtain ⟨mb, k, hmq, hM⟩ := hR.maps q hq
  obtain ⟨x, hx⟩ := getElem?_of_lt (xs := C) (i := t) (by rw [hC.len]; exact ht)
  have hax : atL C (t : Int) = x := by unfold atL; rw [List.getD_eq_getElem?_getD]; simp [hx]
  rw [hax]
  obtain rfl := hR.cls.ad (by rw [hC.len]; omega)
  obtain rfl := hR.row.ad (by rw [hR.len]; omega)
  have c1 := hR.cls.ci hx; have c2 := hR.row.cv hmq
  have l1 := hR.cls.lt (by rw [hC.len]; omega); have l2 := hR.row.lt (by rw [hR.len]; omega)
  simp only [Nat.zero_add] at c2
  have hok : okS (l, x) := ⟨hl, hC.ok x (List.mem_of_getElem? hx)⟩
  obtain ⟨bb, hbb⟩ : ∃ bb, bb = decide ((l, x) ∈ D q) := ⟨_, rfl⟩
  have hlook : ∀ w', w'.heap[mb]? = w.heap[mb]? → (Instr.lookup 123 (.map (some mb)) (.agg #[.int .i64 l, .int .i64 x]) true).run Tryz.prog w' = .ok (.tuple #[.agg #[], .bool bb]) w' := fun w' hb => by
    have h := (hM.of_block (w' := w') hb).look encStep Tryz.underlying123 (zeroUnit w') (x := (l, x)) hok true
    rw [addU_isSome] at h
    rw [hbb]
    refine h.trans ?_
    unfold addU encU
    by_cases hm : (l, x) ∈ D q <;> simp [hm]
  have hml := hM.lt
  rw [← hbb]
  have hqI : (q : Int) < (n : Int) := by omega
  have htI : (t : Int) < (n : Int) := by omega
  have hb0 := ((Below.refl w.heap.size w).alloc (Nat.le_refl _) (.cells #[.slice (some ⟨cb, co, none⟩) n cc, .slice (some ⟨db, 0, none⟩) n dc] 122)).alloc (by simp) (.cells #[.int .i64 l, .int .i64 t] 84)
  have HL := Lib.hid hlook
  clear hR hC hmq hM hx hax hok hbb hlook
  go_enter Tryz.func158, Tryz.ntmps158
  go_wp2_with fail
  obtain ⟨W, hW⟩ : ∃ W, W = (w.alloc (.cells #[.slice (some ⟨cb, co, none⟩) n cc, .slice (some ⟨db, 0, none⟩) n dc] 122)).alloc (.cells #[.int .i64 l, .int .i64 t] 84) := ⟨_, rfl⟩
  have hz : W.heap.size = w.heap.size + 2 := by rw [hW]; simp
  have e0 : W.cell? ⟨w.heap.size, 0, none⟩ = some (.slice (some ⟨cb, co, none⟩) n cc) := by rw [hW]; simp [go_sem]
  have e1 : W.cell? ⟨w.heap.size, 1, none⟩ = some (.slice (some ⟨db, 0, none⟩) n dc) := by rw [hW]; simp [go_sem]
  have e2 : W.cell? ⟨w.heap.size + 1, 0, none⟩ = some (.int .i64 l) := by rw [hW]; simp [go_sem]
  have e3 : W.cell? ⟨w.heap.size + 1, 1, none⟩ = some (.int .i64 t) := by rw [hW]; simp [go_sem]
  rw [← hW] at hb0 ⊢
  have e4 : W.cell? ⟨cb, co + t, none⟩ = some (.int .i64 x) := by rw [hb0.cell (p := ⟨cb, co + t, none⟩) l1]; exact c1
  have e5 : W.cell? ⟨db, q, none⟩ = some (.map (some mb)) := by rw [hb0.cell (p := ⟨db, q, none⟩) l2]; exact c2
  have hkeep : ∀ w', Below W.heap.size W w' → (w'.cell? ⟨w.heap.size, 0, none⟩ = some (.slice (some ⟨cb, co, none⟩) n cc) ∧ w'.cell? ⟨w.heap.size, 1, none⟩ = some (.slice (some ⟨db, 0, none⟩) n dc) ∧ w'.cell? ⟨w.heap.size + 1, 0, none⟩ = some (.int .i64 l) ∧ w'.cell? ⟨w.heap.size + 1, 1, none⟩ = some (.int .i64 t) ∧ w'.cell? ⟨cb, co + t, none⟩ = some (.int .i64 x) ∧ w'.cell? ⟨db, q, none⟩ = some (.map (some mb)) ∧ (Instr.lookup 123 (.map (some mb)) (.agg #[.int .i64 l, .int .i64 x]) true).run Tryz.prog w' = .ok (.tuple #[.agg #[], .bool bb]) w') := fun w' h =>
    ⟨by rw [h.cell (p := ⟨w.heap.size, 0, none⟩) (by simp; omega)]; exact e0, by rw [h.cell (p := ⟨w.heap.size, 1, none⟩) (by simp; omega)]; exact e1, by rw [h.cell (p := ⟨w.heap.size + 1, 0, none⟩) (by simp; omega)]; exact e2, by rw [h.cell (p := ⟨w.heap.size + 1, 1, none⟩) (by simp; omega)]; exact e3,
      by rw [h.cell (p := ⟨cb, co + t, none⟩) (by simp; omega)]; exact e4, by rw [h.cell (p := ⟨db, q, none⟩) (by simp; omega)]; exact e5, HL.out _ (by rw [h.block _ (by omega), hb0.block _ hml])⟩
  have HK := Lib.hid hkeep; have HB0 := Lib.hid hb0
  clear hkeep hb0 hW c1 c2 e0 e1 e2 e3 e4 e5 HL
  go_region_held3 (fun w' => w'.cell? ⟨w.heap.size, 0, none⟩ = some (.slice (some ⟨cb, co, none⟩) n cc) ∧ w'.cell? ⟨w.heap.size, 1, none⟩ = some (.slice (some ⟨db, 0, none⟩) n dc) ∧ w'.cell? ⟨w.heap.size + 1, 0, none⟩ = some (.int .i64 l) ∧ w'.cell? ⟨w.heap.size + 1, 1, none⟩ = some (.int .i64 t) ∧ w'.cell? ⟨cb, co + t, none⟩ = some (.int .i64 x) ∧ w'.cell? ⟨db, q, none⟩ = some (.map (some mb)) ∧ (Instr.lookup 123 (.map (some mb)) (.agg #[.int .i64 l, .int .i64 x]) true).run Tryz.prog w' = .ok (.tuple #[.agg #[], .bool bb]) w')
    (first | exact HK.out _ (Below.refl _ _).drew | exact HK.out _ ((Below.refl _ _).drew.alloc (by simp) _) | exact HK.out _ (((Below.refl _ _).drew.alloc (by simp) _).alloc (by simp) _))
    (fail)
  all_goals
    go_wp2
    go_ret
    exact ⟨rfl, (HB0.out.alloc HB0.out.size _).drew⟩

theorem bSet4W {w0 w : World} {x0 x1 x2 x3 : Value} (h : Below w0.heap.size w0 w) : Below w0.heap.size w0 ((((w.setCell ⟨w0.heap.size, 0, none⟩ x0).setCell ⟨w0.heap.size, 1, none⟩ x1).setCell ⟨w0.heap.size, 2, none⟩ x2).setCell ⟨w0.heap.size, 3, none⟩ x3) :=
  (((h.setCell (Nat.le_refl _) _).setCell (Nat.le_refl _) _).setCell (Nat.le_refl _) _).setCell (Nat.le_refl _) _
/-! fails: the first step of p that q does not meet. -/
theorem meets_nilAhead (v : Value) (w : World) : (nilAhead 332 122 v "semblance/witness.meets").run Tryz.prog w = .ok (some false) w := by kernel_rfl
theorem meets_method (v : Value) (w : World) : (Go.method 332 122 v "semblance/witness.meets").run Tryz.prog w = .ok (158, v) w := by kernel_rfl

def failD (s : Lts) (C : List Int) (D : Nat → List S) (p q : Nat) : Option S := (s.outs (p : Int)).find? (fun x => !decide ((x.1, atL C x.2) ∈ D q))
def FailE (o : Option S) (p q : Nat) (e : Ending) : Prop :=
  match o with
  | some x => e = .returned (.tuple #[.agg #[.int .i64 p, .int .i64 q, .int .i64 x.1, .int .i64 x.2], .bool true])
  | none => e = .returned (.tuple #[.agg #[.int .i64 0, .int .i64 0, .int .i64 0, .int .i64 0], .bool false])

set_option maxRecDepth 100000 in
set_option maxHeartbeats 2000000 in
theorem fails_any {w0 w : World} {gb : Nat} {s : Lts} (h : GraphAt w0 gb s) (hB : Below w0.heap.size w0 w) {n : Nat} {C : List Int} {ca : Option Addr} {cb co cc : Nat} {da : Option Addr} {db dc : Nat} {ms : List Value} {D : Nat → List S} (hR : RelAt w s n C ca cb co da db ms D) (hC : Cls s n C) {p q : Nat} (hq : q < n) :
    Calls Tryz.prog 45 #[.pointer (some ⟨gb, 0, none⟩), .int .i64 p, .int .i64 q, .iface 122 (.agg #[.slice ca n cc, .slice da n dc])] w fun e w' => FailE (failD s C D p q) p q e ∧ Below w.heap.size w w' := by
  have hn : n ≤ 1000 := by have := h.right.st0; have := hC.st; omega
  have hna := meets_nilAhead
  have hme := meets_method
  have hbA := (Below.refl w.heap.size w).alloc (Nat.le_refl _) (.cells #[.int .i64 0, .int .i64 0, .int .i64 0, .int .i64 0] 30)
  have HEA := Lib.hid (each_any h (hB.trans (hbA.mono hB.size)) (p : Int))
  have HH := Lib.hid h; have HB := Lib.hid hB; have HR := Lib.hid hR; have HC := Lib.hid hC; have HBA := Lib.hid hbA
  have hfz := heap_alloc_new w (.cells #[.int .i64 0, .int .i64 0, .int .i64 0, .int .i64 0] 30)
  have HF0 := Lib.hid hfz
  clear h hB hR hC hbA hfz
  go_enter Tryz.func45, Tryz.ntmps45
  go_wp2_with fail
  refine (HEA.out).mono ?_
  rintro e wb ⟨⟨a2, c2, b2, off2, rfl, hc2, hm2, hss⟩, hBb⟩
  have HSS := Lib.hid hss
  have hsl : (s.outs (p : Int)).length ≤ 10000 := outs_len HH.out.right _
  have HBb := Lib.hid hBb
  clear hss hBb hc2 hm2 HEA
  go_wp2_with fail
  go_loopw [11, 16] (fun _ v16 wr => ∃ k : Nat, v16 = .int .i64 k ∧ k ≤ (s.outs (p : Int)).length ∧ (∀ x ∈ (s.outs (p : Int)).take k, (x.1, atL C x.2) ∈ D q) ∧ Below w.heap.size w wr ∧ wr.heap[w.heap.size]? = some (.cells #[.int .i64 0, .int .i64 0, .int .i64 0, .int .i64 0] 30 (0, 0)))
    (fun _ v16 _ => (s.outs (p : Int)).length - (intOf v16).toNat)
  case atStart => exact ⟨0, rfl, Nat.zero_le _, by simp, HBA.out.trans (HBb.out.mono (by simp)), (HBb.out.block _ (by simp)).trans HF0.out⟩
  case round =>
    obtain ⟨k, rfl, hk, hall, hbr, hfr⟩ := hrel
    have HALL := Lib.hid hall; have HBR := Lib.hid hbr; have HFR := Lib.hid hfr
    have hfl := (Array.getElem?_eq_some_iff.1 hfr).1
    clear hall hbr hfr HBb HF0 HBA
    by_cases hlt : k < (s.outs (p : Int)).length
    · obtain ⟨y, hy⟩ := getElem?_of_lt hlt
      have hss := HSS.out.below (HB.out.trans (HBR.out.mono HB.out.size)) (Nat.le_refl _)
      obtain rfl := hss.ad (by omega)
      have d0 := hss.s0 hy; have d1 := hss.s1 hy
      have dl := hss.lt (by omega)
      have hyr := offB_false.1 (HH.out.right.edges _ (mem_outs.1 (List.mem_of_getElem? hy)))
      have hlb := HH.out.right.st0
      have hst := HC.out.st
      obtain ⟨y1, y2⟩ := y
      simp only at hyr d0 d1
      obtain ⟨t, rfl⟩ := Int.eq_ofNat_of_zero_le hyr.2.2.2.2.1
      have htn : t < n := by omega
      have hwl : (Lit.int .i64 y1).wf = true := WalkArith.wf_i64 (by omega)
      have hkI : (k : Int) < ((s.outs (p : Int)).length : Int) := by omega
      have HY := Lib.hid hy
      have HME := Lib.hid (fun W' (hb : Below w.heap.size w W') => meets_any (cc := cc) (dc := dc) (HR.out.below hb) HC.out hn hq htn hwl)
      clear hy hss hyr hlb hst hwl htn
      have hbw := HBR.out.alloc HBR.out.size (.cells #[.int .i64 y1, .int .i64 t] 84)
      have HBW := Lib.hid hbw
      clear hbw
      go_wp2_with fail
      refine (HME.out _ HBW.out).mono ?_
      rintro e w5 ⟨rfl, hB5⟩
      have hs5 := hB5.size
      have hbx := (hB5.block wr.heap.size (by simp)).trans (heap_alloc_new wr (.cells #[.int .i64 y1, .int .i64 t] 84))
      have hff := (hB5.block w.heap.size (by simp; omega)).trans ((Below.heap_alloc wr (.cells #[.int .i64 y1, .int .i64 t] 84) w.heap.size hfl).trans HFR.out)
      have HB5 := Lib.hid (HBW.out.trans (hB5.mono HBW.out.size))
      by_cases hin : (y1, atL C (t : Int)) ∈ D q
      · have hd : decide ((y1, atL C (t : Int)) ∈ D q) = true := by simp [hin]
        rw [hd]
        have HFF := Lib.hid hff
        have hall2 : ∀ x ∈ (s.outs (p : Int)).take (k + 1), (x.1, atL C x.2) ∈ D q := by
          intro x hx
          rw [take_snoc HY.out] at hx
          rcases List.mem_append.1 hx with hx | hx
          · exact HALL.out x hx
          · simp at hx; subst hx; exact hin
        have HALL2 := Lib.hid hall2
        clear hd hin hff hbx hB5 hall2 HALL HBW HBR HFR HME
        go_wp2_with fail
        go_roundw
        case rel => exact ⟨k + 1, by go_num, by omega, HALL2.out, HB5.out, HFF.out⟩
        case measure => simp [intOf]; omega
      · have hd : decide ((y1, atL C (t : Int)) ∈ D q) = false := by simp [hin]
        rw [hd]
        have hfin : failD s C D p q = some (y1, (t : Int)) := by
          unfold failD
          rw [← List.take_append_drop k (s.outs (p : Int)), List.find?_append, List.find?_eq_none.2 (fun x hx => by simp [HALL.out x hx])]
          rw [List.drop_eq_getElem_cons hlt, List.find?_cons_of_pos]
          · have := (List.getElem?_eq_some_iff.1 HY.out).2
            rw [this]; rfl
          · have := (List.getElem?_eq_some_iff.1 HY.out).2
            rw [this]; simp [hin]
        have HFIN := Lib.hid hfin
        have b0 : w5.cell? ⟨wr.heap.size, 0, none⟩ = some (.int .i64 y1) := by simp [World.cell?, hbx]
        have b1 : w5.cell? ⟨wr.heap.size, 1, none⟩ = some (.int .i64 t) := by simp [World.cell?, hbx]
        have hbl := (Array.getElem?_eq_some_iff.1 hbx).1
        have f0 : w5.cell? ⟨w.heap.size, 0, none⟩ = some (.int .i64 0) := by simp [World.cell?, hff]
        have f1 : w5.cell? ⟨w.heap.size, 1, none⟩ = some (.int .i64 0) := by simp [World.cell?, hff]
        have f2 : w5.cell? ⟨w.heap.size, 2, none⟩ = some (.int .i64 0) := by simp [World.cell?, hff]
        have f3 : w5.cell? ⟨w.heap.size, 3, none⟩ = some (.int .i64 0) := by simp [World.cell?, hff]
        have z0 : w5.frozen? ⟨w.heap.size, 0, none⟩ = false := by simp [World.frozen?, hff]
        have z1 : w5.frozen? ⟨w.heap.size, 1, none⟩ = false := by simp [World.frozen?, hff]
        have z2 : w5.frozen? ⟨w.heap.size, 2, none⟩ = false := by simp [World.frozen?, hff]
        have z3 : w5.frozen? ⟨w.heap.size, 3, none⟩ = false := by simp [World.frozen?, hff]
        have hfl5 := (Array.getElem?_eq_some_iff.1 hff).1
        clear hd hin hff hbx hB5 HALL HBW HBR HFR HME hfin HY d0 d1 dl hfl
        go_wp2_with fail
        refine bodyPost_ret (v := .tuple #[.agg #[.int .i64 p, .int .i64 q, .int .i64 y1, .int .i64 t], .bool true]) (by simp [results, Tryz.results45, go_sem, hfl5, f0, f1, f2, f3]) rfl ⟨?_, ?_⟩
        · rw [HFIN.out]; rfl
        · exact bSet4W HB5.out
    · have hkk : (s.outs (p : Int)).length = k := by omega
      subst hkk
      have hfin : failD s C D p q = none := by
        unfold failD
        rw [List.find?_eq_none]
        intro x hx
        have := HALL.out x (by rw [List.take_length]; exact hx)
        simp [this]
      have HFIN := Lib.hid hfin
      have hff := HFR.out
      have f0 : wr.cell? ⟨w.heap.size, 0, none⟩ = some (.int .i64 0) := by simp [World.cell?, hff]
      have f1 : wr.cell? ⟨w.heap.size, 1, none⟩ = some (.int .i64 0) := by simp [World.cell?, hff]
      have f2 : wr.cell? ⟨w.heap.size, 2, none⟩ = some (.int .i64 0) := by simp [World.cell?, hff]
      have f3 : wr.cell? ⟨w.heap.size, 3, none⟩ = some (.int .i64 0) := by simp [World.cell?, hff]
      have z0 : wr.frozen? ⟨w.heap.size, 0, none⟩ = false := by simp [World.frozen?, hff]
      have z1 : wr.frozen? ⟨w.heap.size, 1, none⟩ = false := by simp [World.frozen?, hff]
      have z2 : wr.frozen? ⟨w.heap.size, 2, none⟩ = false := by simp [World.frozen?, hff]
      have z3 : wr.frozen? ⟨w.heap.size, 3, none⟩ = false := by simp [World.frozen?, hff]
      clear hfin hff HALL HFR
      go_wp2_with fail
      refine bodyPost_ret (v := .tuple #[.agg #[.int .i64 0, .int .i64 0, .int .i64 0, .int .i64 0], .bool false]) (by simp [results, Tryz.results45, go_sem, hfl, f0, f1, f2, f3]) rfl ⟨?_, ?_⟩
      · rw [HFIN.out]; rfl
      · exact bSet4W HBR.out
end Go.Proofs.YtclannenknhfpaaGreatDoor

/-
  simul: table.does: whether a state can take every step of another, as the rows say.
-/
import Derived.Test.YtbbjmompbmgnmaaDoorSimD
namespace Go.Proofs.YtbbjmompbmgnmaaDoor
open Go.RowKit Pl

attribute [local go_sem ↓] Go.wp_at_zero Go.wp_at_succ

/-- Rows of bits, one of each state, in one block. -/
structure RelR (w : World) (ob n : Nat) (R : Nat → Nat → Bool) : Prop where
  row : ∀ p, p < n → RowAt w ob (p * 5) (R p)
theorem RelR.below {w w' : World} {ob n : Nat} {R : Nat → Nat → Bool} (h : RelR w ob n R) (hB : Below w.heap.size w w') : RelR w' ob n R := ⟨fun p hp => (h.row p hp).below hB⟩

def stepD (s : Lts) (R : Nat → Nat → Bool) (q : Nat) (x : S) : Bool := (s.outs (q : Int)).any (fun y => decide (y.1 = x.1) && R x.2.toNat y.2.toNat)
def doesB (s : Lts) (R : Nat → Nat → Bool) (p q : Nat) : Bool := (s.outs (p : Int)).all (stepD s R q)

theorem stepD_iff {s : Lts} (hr : s.Right) {n : Nat} (hn : s.st = (n : Int)) (hn3 : n ≤ 300) (R : Nat → Nat → Bool) (q : Nat) (l : Int) (t : Nat) : stepD s R q (l, (t : Int)) = true ↔ ∃ i, i < 320 ∧ rowL (s.outs (q : Int)) l i = true ∧ R t i = true := by
  unfold stepD rowL
  simp only [List.any_eq_true, Bool.and_eq_true, decide_eq_true_eq, Int.toNat_natCast]
  constructor
  · rintro ⟨y, hy, h1, h2⟩
    have hyr := offB_false.1 (hr.edges _ (mem_outs.1 hy))
    obtain ⟨y1, y2⟩ := y
    simp only at hyr h1 h2
    obtain ⟨i, rfl⟩ := Int.eq_ofNat_of_zero_le hyr.2.2.2.2.1
    subst h1
    exact ⟨i, by omega, hy, h2⟩
  · rintro ⟨i, _, h1, h2⟩
    exact ⟨(l, (i : Int)), h1, rfl, h2⟩

set_option maxRecDepth 100000 in
set_option maxHeartbeats 4000000 in
theorem does_any {w0 w : World} {gb tb base ob n : Nat} {s : Lts} {R : Nat → Nat → Bool} (h : GraphAt w0 gb s) (hB : Below w0.heap.size w0 w) (hT : TabOf w gb tb s base) (hn : s.st = (n : Int)) (hn3 : n ≤ 300) (hR : RelR w ob n R) (p : Nat) {q : Nat} (hq : q < n) :
    Calls Tryd.prog 81 #[.pointer (some ⟨tb, 0, none⟩), .int .i64 p, .int .i64 q, .slice (some ⟨ob, 0, none⟩) n n] w fun e w' => e = .returned (.bool (doesB s R p q)) ∧ Below w.heap.size w w' := by
  obtain ⟨ms, da, db, dc, hblk, hms, hml, hmaps⟩ := hT.ex
  obtain ⟨mb, hmq, hLM⟩ := hmaps q (by omega)
  obtain ⟨f, nm, hm, h1, h2, h3⟩ := hLM.ex
  have hml' : ms.length = n := by omega
  obtain rfl := hms.ad (by omega)
  rw [hml'] at hblk
  have t0 : w.cell? ⟨tb, 0, none⟩ = some (.pointer (some ⟨gb, 0, none⟩)) := by simp [World.cell?, hblk]
  have t1 : w.cell? ⟨tb, 1, none⟩ = some (.slice (some ⟨db, 0, none⟩) n dc) := by simp [World.cell?, hblk]
  have tl := (Array.getElem?_eq_some_iff.1 hblk).1
  have c5 := hms.cv hmq
  have l5 := hms.lt (by omega)
  simp only [Nat.zero_add] at c5
  have hlook : ∀ w' : World, w'.heap[mb]? = w.heap[mb]? → ∀ l, okI l → (Instr.lookup 155 (.map (some mb)) (.int .i64 l) false).run Tryd.prog w' = .ok (((f l).map encP).getD (.pointer none)) w' := fun w' hb l hl =>
    (hm.of_block (w' := w') hb).look encInt Tryd.underlying155 (zeroPtr w') (x := l) hl false
  have hmlt := hm.lt
  have hrow : ∀ l b, f l = some b → RowAt w b 0 (rowL (s.outs (q : Int)) l) := fun l b e => (h1 l b e).2.2.1
  have hqI : (q : Int) < (n : Int) := by omega
  have HEA := Lib.hid (each_any h hB (p : Int))
  have HH := Lib.hid h; have HB := Lib.hid hB; have HR := Lib.hid hR; have HL := Lib.hid hlook; have HROW := Lib.hid hrow; have HNO := Lib.hid h2; have HT0 := Lib.hid t0; have HT1 := Lib.hid t1; have HC5 := Lib.hid c5; have HN := Lib.hid hn
  clear h hB hT hR hblk hms hml hmaps hmq hLM hm h1 h2 h3 hlook hrow t1 c5
  go_enter Tryd.func81, Tryd.ntmps81
  go_wp2_with fail
  refine (HEA.out).mono ?_
  rintro e wb ⟨⟨a2, c2, b2, off2, rfl, hc2, hm2, hss⟩, hBb⟩
  have HSS := Lib.hid hss
  have hsl : (s.outs (p : Int)).length ≤ 10000 := outs_len HH.out.right _
  have HBb := Lib.hid hBb
  clear hss hBb hc2 hm2 HEA t0
  go_wp2_with fail
  go_loopw [10, 11, 19] (fun _ _ v19 wr => ∃ k : Nat, v19 = .int .i64 k ∧ k ≤ (s.outs (p : Int)).length ∧ (∀ x ∈ (s.outs (p : Int)).take k, stepD s R q x = true) ∧ Below w.heap.size w wr)
    (fun _ _ v19 _ => (s.outs (p : Int)).length - (intOf v19).toNat)
  case atStart => exact ⟨0, rfl, Nat.zero_le _, by simp, HBb.out⟩
  case round =>
    obtain ⟨k, rfl, hk, hall, hbr⟩ := hrel
    have HALL := Lib.hid hall; have HBR := Lib.hid hbr
    have hsz := hbr.size
    clear hall hbr HBb
    by_cases hlt : k < (s.outs (p : Int)).length
    · obtain ⟨y, hy⟩ := getElem?_of_lt hlt
      have hss := HSS.out.below (HB.out.trans (HBR.out.mono HB.out.size)) (Nat.le_refl _)
      obtain rfl := hss.ad (by omega)
      have d0 := hss.s0 hy; have d1 := hss.s1 hy
      have dl := hss.lt (by omega)
      have hyr := offB_false.1 (HH.out.right.edges _ (mem_outs.1 (List.mem_of_getElem? hy)))
      have hlb := HH.out.right.st0
      have hst := HN.out
      obtain ⟨y1, y2⟩ := y
      simp only at hyr d0 d1
      obtain ⟨t, rfl⟩ := Int.eq_ofNat_of_zero_le hyr.2.2.2.2.1
      have htn : t < n := by omega
      have htI : (t : Int) < (n : Int) := by omega
      have hok : okI y1 := WalkArith.wf_i64 (by omega)
      have hkI : (k : Int) < ((s.outs (p : Int)).length : Int) := by omega
      have HY := Lib.hid hy; have HOK := Lib.hid hok
      clear hy hss hyr hlb hst hok
      go_upto_region 4 with fail
      obtain ⟨W, hW⟩ : ∃ W, W = wr.alloc (.cells #[.int .i64 y1, .int .i64 t] 49) := ⟨_, rfl⟩
      have hBW : Below w.heap.size w W := by rw [hW]; exact HBR.out.alloc hsz _
      have hws : wr.heap.size < W.heap.size := by rw [hW]; simp
      have hwz : W.heap.size = wr.heap.size + 1 := by rw [hW]; simp
      have s0 : W.cell? ⟨wr.heap.size, 0, none⟩ = some (.int .i64 y1) := by rw [hW]; simp
      have s1 : W.cell? ⟨wr.heap.size, 1, none⟩ = some (.int .i64 t) := by rw [hW]; simp
      rw [← hW]
      obtain ⟨v, hv⟩ : ∃ v, v = ((f y1).map encP).getD (.pointer none) := ⟨_, rfl⟩
      have hkeep : ∀ w', Below W.heap.size W w' → (w'.cell? ⟨tb, 1, none⟩ = some (.slice (some ⟨db, 0, none⟩) n dc) ∧ w'.cell? ⟨db, q, none⟩ = some (.map (some mb)) ∧ w'.cell? ⟨wr.heap.size, 0, none⟩ = some (.int .i64 y1) ∧ w'.cell? ⟨wr.heap.size, 1, none⟩ = some (.int .i64 t) ∧ (Instr.lookup 155 (.map (some mb)) (.int .i64 y1) false).run Tryd.prog w' = .ok v w') := fun w' h => by
        have h' := hBW.trans (h.mono hBW.size)
        exact ⟨by rw [h'.cell (p := ⟨tb, 1, none⟩) tl]; exact HT1.out, by rw [h'.cell (p := ⟨db, q, none⟩) l5]; exact HC5.out, by rw [h.cell (p := ⟨wr.heap.size, 0, none⟩) hws]; exact s0, by rw [h.cell (p := ⟨wr.heap.size, 1, none⟩) hws]; exact s1, by rw [hv]; exact HL.out _ (h'.block _ hmlt) y1 HOK.out⟩
      have HK := Lib.hid hkeep; have HBW := Lib.hid hBW; have HV := Lib.hid hv
      clear hkeep hBW hW s0 s1 hv d0 d1 HBR
      go_region_held3 (fun w' => w'.cell? ⟨tb, 1, none⟩ = some (.slice (some ⟨db, 0, none⟩) n dc) ∧ w'.cell? ⟨db, q, none⟩ = some (.map (some mb)) ∧ w'.cell? ⟨wr.heap.size, 0, none⟩ = some (.int .i64 y1) ∧ w'.cell? ⟨wr.heap.size, 1, none⟩ = some (.int .i64 t) ∧ (Instr.lookup 155 (.map (some mb)) (.int .i64 y1) false).run Tryd.prog w' = .ok v w')
        (first | exact HK.out _ (Below.refl _ _).drew | exact HK.out _ ((Below.refl _ _).drew.alloc (by simp) _))
        (fail)
      have HBD := Lib.hid HBW.out.drew
      have q1 : W.drew.cell? ⟨wr.heap.size, 1, none⟩ = some (.int .i64 t) := (HK.out _ (Below.refl _ _).drew).2.2.2.1
      have zW : W.drew.heap.size = wr.heap.size + 1 := hwz
      have hSI := stepD_iff HH.out.right HN.out hn3 R q y1 t
      have HSI := Lib.hid hSI
      have hv := HV.out
      clear HK HBW HV hSI HT1 HC5
      have hbad : stepD s R q (y1, (t : Int)) = false → doesB s R p q = false := fun h => by
        unfold doesB
        rw [List.all_eq_false]
        exact ⟨_, List.mem_of_getElem? HY.out, by simp [h]⟩
      have HBAD := Lib.hid hbad
      clear hbad
      rcases hfy : f y1 with _ | b
      · rw [hfy] at hv
        replace hv : v = .pointer none := hv
        subst hv
        have hb2 : doesB s R p q = false := HBAD.out (by
          rw [Bool.eq_false_iff]; intro hh
          obtain ⟨i, _, h1, _⟩ := HSI.out.1 hh
          unfold rowL at h1
          exact HNO.out y1 hfy _ (by simpa using h1))
        have HB2 := Lib.hid hb2
        clear hb2 HBAD HSI HNO hfy
        go_wp2_with fail
        go_ret
        exact ⟨by rw [HB2.out]; rfl, (by first | exact HBD.out | exact HBD.out.drew)⟩
      · rw [hfy] at hv
        replace hv : v = .pointer (some ⟨b, 0, none⟩) := hv
        subst hv
        have hm := rowMeets_any ((HROW.out y1 b hfy).below HBD.out) ((HR.out.row t htn).below HBD.out)
        have HM := Lib.hid hm
        clear hm hfy HROW HNO
        go_wp2_with fail
        refine HM.out.mono ?_
        rintro e w5 ⟨m, rfl, hiff, u, rfl⟩
        have hbe : Below w.heap.size w (W.drew.drewN u) := ⟨HBD.out.os, HBD.out.tape, HBD.out.output, HBD.out.size, HBD.out.block⟩
        have HBE := Lib.hid hbe
        have hms : m = stepD s R q (y1, (t : Int)) := by rw [Bool.eq_iff_iff, hiff, HSI.out]
        have HMS := Lib.hid hms
        clear hbe hms hiff HM HBD HSI
        cases m
        · have hb2 := HBAD.out HMS.out.symm
          have HB2 := Lib.hid hb2
          clear hb2 HBAD HMS
          go_wp2_with fail
          go_ret
          exact ⟨by rw [HB2.out]; rfl, ⟨HBE.out.os, HBE.out.tape, HBE.out.output, HBE.out.size, HBE.out.block⟩⟩
        · have hnx : ∀ x ∈ (s.outs (p : Int)).take (k + 1), stepD s R q x = true := fun x hx => by
            rw [take_snoc HY.out] at hx
            rcases List.mem_append.1 hx with h | h
            · exact HALL.out x h
            · simp at h; subst h; exact HMS.out.symm
          have HNX := Lib.hid hnx
          clear hnx HBAD HMS HALL
          go_wp2_with fail
          go_roundw
          case rel => exact ⟨k + 1, by go_num, by omega, HNX.out, ⟨HBE.out.os, HBE.out.tape, HBE.out.output, HBE.out.size, HBE.out.block⟩⟩
          case measure => simp [intOf]; omega
    · have hke : k = (s.outs (p : Int)).length := by omega
      have hall : doesB s R p q = true := by
        unfold doesB
        rw [List.all_eq_true]
        have := HALL.out
        rw [hke, List.take_length] at this; exact this
      have HALL2 := Lib.hid hall
      clear hall HALL
      go_wp2_with fail
      go_ret
      exact ⟨by rw [HALL2.out]; rfl, HBR.out⟩
end Go.Proofs.YtbbjmompbmgnmaaDoor

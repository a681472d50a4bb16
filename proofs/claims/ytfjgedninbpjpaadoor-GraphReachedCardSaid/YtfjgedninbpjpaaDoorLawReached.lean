/-
  law7.GraphReached.
-/
import Derived.Test.YtfjgedninbpjpaaDoorAlive
import Derived.Test.YtfjgedninbpjpaaDoorCutAt
import Derived.Deep.RegionWith
namespace Go.Proofs.YtfjgedninbpjpaaDoor
open Go.RowKit Pl

/-- What stays behind the cut: the argument's box, the marks, the new numbers, the cut's box. -/
structure G6 (w : World) (B IB TB CB n : Nat) (s : Lts) (L : List Int) (f : Nat → Int) (ev cv : Value) (c0 c1 c2 : Int) : Prop where
  box : w.heap[B]? = some (.cells #[.int .i64 s.st, .int .i64 s.lb, .int .i64 s.s0, ev] 24 (0, 0))
  row : w.rowIs IB 4 n (fun j => .bool (decide ((j : Int) ∈ L)))
  asr : w.rowIs TB 3 n (fun j => .int .i64 (f j))
  cut : w.heap[CB]? = some (.cells #[.int .i64 c0, .int .i64 c1, .int .i64 c2, cv] 24 (0, 0))

section
variable {w w' : World} {B IB TB CB n : Nat} {s : Lts} {L : List Int} {f : Nat → Int} {ev cv : Value} {c0 c1 c2 : Int}
theorem G6.below (hB : Below w.heap.size w w') (h : G6 w B IB TB CB n s L f ev cv c0 c1 c2) : G6 w' B IB TB CB n s L f ev cv c0 c1 c2 :=
  ⟨by rw [hB.block _ (Array.getElem?_eq_some_iff.1 h.box).1]; exact h.box, h.row.of_block (hB.block _ h.row.lt), h.asr.of_block (hB.block _ h.asr.lt), by rw [hB.block _ (Array.getElem?_eq_some_iff.1 h.cut).1]; exact h.cut⟩
theorem G6.cells (h : G6 w B IB TB CB n s L f ev cv c0 c1 c2) {k : Nat} (hk : k < n) : w.cell? ⟨B, 0, none⟩ = some (.int .i64 s.st) ∧ w.cell? ⟨B, 2, none⟩ = some (.int .i64 s.s0) ∧ w.cell? ⟨CB, 0, none⟩ = some (.int .i64 c0) ∧ w.cell? ⟨CB, 2, none⟩ = some (.int .i64 c2) ∧
    w.cell? ⟨IB, k, none⟩ = some (.bool (decide ((k : Int) ∈ L))) ∧ w.cell? ⟨TB, k, none⟩ = some (.int .i64 (f k)) := by
  have h1 := h.box; have h2 := h.cut
  exact ⟨by simp [World.cell?, h1], by simp [World.cell?, h1], by simp [World.cell?, h2], by simp [World.cell?, h2], h.row.cell hk, h.asr.cell hk⟩
theorem G6.cell0 (h : G6 w B IB TB CB n s L f ev cv c0 c1 c2) : w.cell? ⟨B, 0, none⟩ = some (.int .i64 s.st) ∧ w.cell? ⟨CB, 0, none⟩ = some (.int .i64 c0) := by
  have h1 := h.box; have h2 := h.cut
  exact ⟨by simp [World.cell?, h1], by simp [World.cell?, h2]⟩
end

theorem box_cells {w : World} {B : Nat} {x y z : Int} {v : Value} (h : w.heap[B]? = some (.cells #[.int .i64 x, .int .i64 y, .int .i64 z, v] 24 (0, 0))) :
    w.cell? ⟨B, 0, none⟩ = some (.int .i64 x) ∧ w.cell? ⟨B, 1, none⟩ = some (.int .i64 y) ∧ w.cell? ⟨B, 2, none⟩ = some (.int .i64 z) ∧ w.cell? ⟨B, 3, none⟩ = some v := by
  refine ⟨?_, ?_, ?_, ?_⟩ <;> simp [World.cell?, h]

set_option maxRecDepth 100000 in
set_option maxHeartbeats 4000000 in
theorem graphReached_any {w : World} {p : Addr} (hG : GErr 0 p w) {s : Lts} {a : Option Addr} {b off c : Nat} (hS : SlAt encE 3 w a b off s.es) :
    Calls Tryd.prog 7 #[.agg #[.int .i64 s.st, .int .i64 s.lb, .int .i64 s.s0, .slice a s.es.length c]] w fun e w' => e = .returned (.bool true) ∧ Below w.heap.size w w' := by
  have hB0 := (Below.refl w.heap.size w).alloc (Nat.le_refl _) (Obj.cells #[.int .i64 s.st, .int .i64 s.lb, .int .i64 s.s0, .slice a s.es.length c] 24)
  have hbx := heap_alloc_new w (Obj.cells #[.int .i64 s.st, .int .i64 s.lb, .int .i64 s.s0, .slice a s.es.length c] 24)
  have HG := Lib.hid (hG.below hB0); have HS := Lib.hid (hS.below hB0 (Nat.le_refl _)); have HB0 := Lib.hid hB0; have HBX := Lib.hid hbx
  clear hG hS hB0 hbx
  have fin : ∀ w1 : World, GErr 0 p w1 → Below w.heap.size w w1 → Calls Tryd.prog 26 #[] w1 fun e w' => e = .returned (.bool true) ∧ Below w.heap.size w w' := by
    intro w1 h1 h2
    refine (alive_any h1).mono ?_
    rintro e w' ⟨rfl, hB⟩
    exact ⟨rfl, h2.trans (hB.mono h2.size)⟩
  have FIN := Lib.hid fin
  clear fin
  by_cases h300 : 300 < s.es.length
  · have hi : (300 : Int) < (s.es.length : Int) := by omega
    go_enter Tryd.func7, Tryd.ntmps7
    go_wp2_with fail
    refine (FIN.out _ HG.out HB0.out).mono ?_
    rintro e w1 ⟨rfl, hB⟩
    go_wp2
    go_ret
    exact ⟨rfl, hB⟩
  have hi : ¬ (300 : Int) < (s.es.length : Int) := by omega
  by_cases h60 : 60 < s.st
  · go_enter Tryd.func7, Tryd.ntmps7
    go_wp2_with fail
    refine (FIN.out _ HG.out HB0.out).mono ?_
    rintro e w1 ⟨rfl, hB⟩
    go_wp2
    go_ret
    exact ⟨rfl, hB⟩
  by_cases hr : s.Right
  case neg =>
    go_enter Tryd.func7, Tryd.ntmps7
    go_wp2_with fail
    refine (new_no (c := c) hr HG.out HS.out).mono ?_
    rintro e w1 ⟨v, rfl, hF, hB1⟩
    obtain ⟨fb, rfl, _⟩ := hF.ex
    have HG1 := Lib.hid (HG.out.below hB1)
    have HB1 := Lib.hid (HB0.out.trans (hB1.mono (by simp)))
    clear hF hB1
    go_wp2_with fail
    refine (FIN.out _ HG1.out HB1.out).mono ?_
    rintro e w2 ⟨rfl, hB⟩
    go_wp2
    go_ret
    exact ⟨rfl, hB⟩
  case pos =>
  have hst := hr.st0
  obtain ⟨n, hn⟩ : ∃ n : Nat, s.st = (n : Int) := ⟨s.st.toNat, by omega⟩
  have HR := Lib.hid hr
  have hmk := run_make_row' (P := Tryd.prog) 42 4 (.bool false) 1 Tryd.underlying42 (by kernel_rfl) rfl .i64 .i64 n (by omega) (by omega)
  rw [← hn] at hmk
  have hn60 : n ≤ 60 := by omega
  have HN := Lib.hid hn; have HST := Lib.hid hst; have HMK := Lib.hid hmk
  clear hn hst hmk
  go_enter Tryd.func7, Tryd.ntmps7
  go_wp2_with fail
  refine (new_ok (c := c) HR.out HG.out HS.out).mono ?_
  rintro e w1 ⟨gb, rfl, hGr, hB1, _⟩
  have hsz1 : w.heap.size + 1 ≤ w1.heap.size := by have := hB1.size; simpa using this
  have hbx1 := (hB1.block w.heap.size (by simp)).trans HBX.out
  obtain ⟨z0, z1, z2, z3⟩ := box_cells hbx1
  have HG1 := Lib.hid (HG.out.below hB1); have HS1 := Lib.hid (HS.out.below hB1 (Nat.le_refl _)); have HGr := Lib.hid hGr; have HBX1 := Lib.hid hbx1
  have HB1 := Lib.hid (HB0.out.trans (hB1.mono (by simp)))
  clear hGr hB1 hbx1 HG HS HBX HB0
  by_cases hn0 : s.st = 0
  · have hb : (s.st == 0) = true := by simp [hn0]
    have HN0 := Lib.hid hn0
    clear hn0
    go_wp2_with fail
    refine (FIN.out _ HG1.out HB1.out).mono ?_
    rintro e w2 ⟨rfl, hB⟩
    go_wp2
    go_ret
    exact ⟨rfl, hB⟩
  have hb : (s.st == 0) = false := by simp [hn0]
  have hnpos : 0 < n := by have := HN.out; omega
  have HN0 := Lib.hid hn0
  have hmk := HMK.out
  clear hn0 HMK hr
  go_wp2_with fail
  clear hmk z0 z1 z2 z3
  obtain ⟨IB, hIB⟩ : ∃ IB, IB = w1.heap.size := ⟨_, rfl⟩
  have hb2 : Below w1.heap.size w1 (w1.alloc (.cells (madeCells #[.bool false] n) 4)) := (Below.refl _ _).alloc (Nat.le_refl _) _
  have hrow2 := World.rowIs_made w1 (.bool false) n 4
  refine (reach_any (HGr.out.below hb2)).mono ?_
  rintro e w3 ⟨v, rfl, hown, hB3⟩
  obtain ⟨ra, rc, rb, rfl, _, _, hsl, hrb⟩ := slAt_own lenI hown
  rw [reachL_norm]
  have hb3 := hb2.trans (hB3.mono (by simp))
  have hrow3 := hrow2.of_block (hB3.block _ (by simp))
  have hrb' : 0 < (reachL s.norm).length → IB < rb := fun h => by have := hrb h; simp at this; omega
  rw [reachL_norm] at hsl hrb'
  rw [← hIB] at hrow3
  obtain ⟨L, hL⟩ : ∃ L, L = reachL s := ⟨_, rfl⟩
  rw [← hL] at hsl hrb' ⊢
  have HL := Lib.hid hL; have HB3 := Lib.hid hb3; have HROW3 := Lib.hid hrow3; have HSL := Lib.hid hsl; have HRB := Lib.hid hrb'; have HIB := Lib.hid hIB
  have hLn : L.length ≤ 60 := by rw [hL]; have := reachL_len (s := s); have := HN.out; omega
  rw [← hIB]
  clear hL hb3 hrow3 hsl hrb hrb' hown hB3 hrow2 hb2 hIB
  -- the box, in whatever world that follows
  have hbw : ∀ wr, Below w1.heap.size w1 wr → wr.heap[w.heap.size]? = some (.cells #[.int .i64 s.st, .int .i64 s.lb, .int .i64 s.s0, .slice a s.es.length c] 24 (0, 0)) := fun wr h => (h.block _ (by omega)).trans HBX1.out
  have HBW := Lib.hid hbw
  clear hbw
  go_wp2_with fail
  go_loopw [7, 44] (fun _ i44 wr => ∃ k : Nat, k ≤ L.length ∧ i44 = .int .i64 k ∧ Below w1.heap.size w1 wr ∧ wr.rowIs IB 4 n (fun j => .bool (decide ((j : Int) ∈ L.take k))) ∧ SlAt encI 1 wr ra rb 0 L)
    (fun _ i44 _ => L.length - (intOf i44).toNat)
  case atStart => exact ⟨0, Nat.zero_le _, rfl, HB3.out, HROW3.out.congr (fun i _ => by simp), HSL.out⟩
  case round =>
    obtain ⟨k, hk, rfl, hB, hrow, hsl⟩ := hrel
    obtain ⟨z0, z1, z2, z3⟩ := box_cells (HBW.out _ hB)
    have HB := Lib.hid hB; have HROW := Lib.hid hrow; have HSL2 := Lib.hid hsl
    by_cases hlt : k < L.length
    · obtain ⟨x, hx⟩ := getElem?_of_lt hlt
      have hxr := reachL_rng (s := s) (x := x) (by rw [← HL.out]; exact List.mem_of_getElem? hx)
      obtain ⟨xn, rfl⟩ := Int.eq_ofNat_of_zero_le hxr.1
      have hxk : xn < n := by have := HN.out; omega
      have hxs : ¬ s.st ≤ (xn : Int) := by omega
      obtain rfl := hsl.ad (by omega)
      have hcx := hsl.ci hx
      simp only [Nat.zero_add] at hcx
      have hct := hrow.cell hxk
      have hft := hrow.frozen xn
      have hIl := hrow.lt
      have hxk' : (xn : Int) < (n : Int) := by omega
      have hklt : (k : Int) < (L.length : Int) := by omega
      have HX := Lib.hid hx
      clear hx hxr hB hrow hsl HB3 HROW3 HSL
      go_wp2
      have h1 := (HROW.out.set xn (.bool true)).congr (g := fun j => .bool (decide ((j : Int) ∈ L.take (k + 1)))) (fun i _ => by
        rw [take_snoc HX.out]
        by_cases hi : i = xn
        · subst hi; simp
        · rw [if_neg hi]
          have : ¬ ((i : Int) = (xn : Int)) := by omega
          simp [this])
      have h2 := HSL2.out.setOther (p := ⟨IB, xn, none⟩) (fun h => by have := HRB.out h; show rb ≠ IB; omega) (.bool true)
      have h3 := HB.out.setCell (p := ⟨IB, xn, none⟩) (by show w1.heap.size ≤ IB; rw [HIB.out]; exact Nat.le_refl _) (.bool true)
      have H1 := Lib.hid h1; have H2 := Lib.hid h2; have H3 := Lib.hid h3
      clear h1 h2 h3
      go_roundw
      case rel => exact ⟨k + 1, by omega, by go_num, H3.out, H1.out, H2.out⟩
      case measure => simp [intOf]; omega
    · obtain rfl : k = L.length := by omega
      rw [List.take_length] at hrow
      have HROW := Lib.hid hrow
      clear hB hrow hsl HB3 HROW3 HSL
      go_wp2_with fail
      go_loopw [8] (fun i8 w2 => ∃ i : Nat, i ≤ s.es.length ∧ i8 = .int .i64 i ∧ w2 = wr)
        (fun i8 _ => s.es.length - (intOf i8).toNat)
      case atStart => exact ⟨0, Nat.zero_le _, rfl, rfl⟩
      case round =>
        obtain ⟨i, hil, rfl, rfl⟩ := hrel
        by_cases hlt2 : i < s.es.length
        · obtain ⟨x, hx⟩ := getElem?_of_lt hlt2
          have hE2 := HS1.out.below HB.out (Nat.le_refl _)
          obtain rfl := hE2.ad (by omega)
          have d0 := hE2.e0 hx; have d2 := hE2.e2 hx
          have hbl := hE2.lt (by omega)
          have hxr := offB_false.1 (HR.out.edges x (List.mem_of_getElem? hx))
          have hstep := reachL_step HR.out (List.mem_of_getElem? hx)
          rw [← HL.out] at hstep
          obtain ⟨x1, x2, x3⟩ := x
          simp only at hxr d0 d2 hstep
          obtain ⟨a1, rfl⟩ := Int.eq_ofNat_of_zero_le hxr.1
          obtain ⟨a3, rfl⟩ := Int.eq_ofNat_of_zero_le hxr.2.2.2.2.1
          have ha1 : a1 < n := by have := HN.out; omega
          have ha3 : a3 < n := by have := HN.out; omega
          have ha1' : (a1 : Int) < (n : Int) := by omega
          have ha3' : (a3 : Int) < (n : Int) := by omega
          have hc1 := HROW.out.cell ha1
          have hc3 := HROW.out.cell ha3
          have hil' : (i : Int) < (s.es.length : Int) := by omega
          have HSTEP := Lib.hid hstep
          clear hE2 hx hxr hstep
          by_cases hin : (a1 : Int) ∈ L
          · have e1 : decide ((a1 : Int) ∈ L) = true := by simp [hin]
            have e3 : decide ((a3 : Int) ∈ L) = true := by simp [HSTEP.out hin]
            rw [e1] at hc1; rw [e3] at hc3
            clear hin e1 e3 HSTEP
            go_wp2
            go_roundw
            case rel => exact ⟨i + 1, by omega, by go_num, by first | rfl | trivial⟩
            case measure => simp [intOf]; omega
          · have e1 : decide ((a1 : Int) ∈ L) = false := by simp [hin]
            rw [e1] at hc1
            clear hin e1 HSTEP
            go_wp2
            go_roundw
            case rel => exact ⟨i + 1, by omega, by go_num, by first | rfl | trivial⟩
            case measure => simp [intOf]; omega
        · obtain rfl : i = s.es.length := by omega
          go_wp2_with fail
          refine (cut_any (HGr.out.below HB.out)).mono ?_
          rintro e w5 ⟨cv, TB, rfl, hcown, hcrow, hTB, hB5⟩
          have hnn : s.norm.st.toNat = n := by have := HN.out; show s.st.toNat = n; omega
          rw [hnn] at hcrow ⊢
          obtain ⟨ca, cc, cb, rfl, _, _, hcs, _⟩ := slAt_own lenE hcown
          have hb5 := HB.out.trans (hB5.mono HB.out.size)
          have hs5 := hb5.size
          have HCS := Lib.hid hcs; have HB5 := Lib.hid hb5; have HCR := Lib.hid hcrow
          have hrow5 := HROW.out.of_block (hB5.block _ HROW.out.lt)
          have HROW5 := Lib.hid hrow5
          obtain ⟨cs, hcsd⟩ : ∃ cs, cs = cut s.norm := ⟨_, rfl⟩
          rw [← hcsd] at HCS ⊢
          have HCSD := Lib.hid hcsd
          have hTB5 := hcrow.lt
          clear hcown hcrow hB5 hb5 hcs hrow5 HROW hnn hcsd HRB HSL2
          go_wp2_with fail
          have hb6 := HB5.out.alloc hs5 (Obj.cells #[.int .i64 cs.st, .int .i64 cs.lb, .int .i64 cs.s0, .slice ca cs.es.length cc] 24)
          have hcb := heap_alloc_new w5 (Obj.cells #[.int .i64 cs.st, .int .i64 cs.lb, .int .i64 cs.s0, .slice ca cs.es.length cc] 24)
          refine (new_ok (s := cs) (c := cc) (by rw [HCSD.out]; exact cut_right HR.out.norm) (HG1.out.below hb6) (HCS.out.alloc _)).mono ?_
          rintro e w6 ⟨gb2, rfl, hGr2, hB6, _⟩
          have hb6' := hb6.trans (hB6.mono (by simp; omega))
          have hg6 : G6 w6 w.heap.size IB TB w5.heap.size n s L (fun j => toOf s.norm (j : Int)) (.slice a s.es.length c) (.slice ca cs.es.length cc) cs.st cs.lb cs.s0 :=
            ⟨HBW.out _ hb6', (HROW5.out.alloc _).of_block (hB6.block _ (by have := HROW5.out.lt; simp; omega)), (HCR.out.alloc _).of_block (hB6.block _ (by simp; omega)), (hB6.block _ (by simp)).trans hcb⟩
          obtain ⟨zn, hzn⟩ := Int.eq_ofNat_of_zero_le HST.out.2.2.2.2.1
          have hznn : zn < n := by have := HST.out; have := HN.out; omega
          have hznn' : (zn : Int) < (n : Int) := by omega
          have hzL : (zn : Int) ∈ L := by rw [HL.out, ← hzn]; exact start_in HR.out HN0.out
          have hlen : (reachL s.norm).length ≠ 0 := fun e => by
            rw [reachL_norm, ← HL.out] at e
            rw [List.eq_nil_of_length_eq_zero e] at hzL; simp at hzL
          have hc2 : cs.s0 = toOf s.norm (zn : Int) := by rw [HCSD.out, ← hzn]; unfold cut; simp only [hlen, if_false]; rfl
          have hm : (reachL cs.norm).length = L.length := by rw [HCSD.out, cut_all HR.out.norm HN0.out, reachL_norm, ← HL.out]
          have hc0 : cs.st = (L.length : Int) := by rw [HCSD.out, HL.out, ← reachL_norm s]; rfl
          have hkeep : ∀ wr, Below w6.heap.size w6 wr → wr.cell? ⟨w.heap.size, 0, none⟩ = some (.int .i64 s.st) ∧ wr.cell? ⟨w.heap.size, 2, none⟩ = some (.int .i64 zn) ∧ wr.cell? ⟨w5.heap.size, 0, none⟩ = some (.int .i64 (L.length : Int)) ∧
              wr.cell? ⟨w5.heap.size, 2, none⟩ = some (.int .i64 cs.s0) ∧ wr.cell? ⟨IB, zn, none⟩ = some (.bool true) ∧ wr.cell? ⟨TB, zn, none⟩ = some (.int .i64 cs.s0) ∧ Below w6.heap.size w6 wr := fun wr h => by
            obtain ⟨h1, h2, h3, h4, h5, h6⟩ := (hg6.below h).cells hznn
            rw [hzn] at h2
            rw [hc0] at h3
            have hd : decide ((zn : Int) ∈ L) = true := by simp [hzL]
            rw [hd] at h5
            refine ⟨h1, h2, h3, h4, h5, ?_, h⟩
            rw [hc2]; exact h6
          have hrc : ∀ W, Below w6.heap.size w6 W → Calls Tryd.prog 27 #[.pointer (some ⟨gb2, 0, none⟩)] W fun e w' => ∃ a7 c7, e = .returned (.slice a7 L.length c7) ∧ Below w6.heap.size w6 w' := fun W h => by
            refine (reach_any (hGr2.below h)).mono ?_
            rintro e w' ⟨v, rfl, hown, hB⟩
            obtain ⟨a7, c7, b7, rfl, _, _, _, _⟩ := slAt_own lenI hown
            rw [hm]
            exact ⟨a7, c7, rfl, h.trans (hB.mono h.size)⟩
          have f1 : ((n : Int) != s.st) = false := by have := HN.out; simp; omega
          have f2 : (cs.s0 != cs.s0) = false := by simp
          have f3 : ((L.length : Int) != (L.length : Int)) = false := by simp
          have hdr : Below w6.heap.size w6 w6.drew := (Below.refl _ _).drew
          obtain ⟨p0, p1, p2, p3, p4, p5, _⟩ := hkeep w6 (Below.refl _ _)
          have HK := Lib.hid hkeep; have HRCH := Lib.hid hrc; have HG6 := Lib.hid hg6; have HB6 := Lib.hid hb6'; have HC0 := Lib.hid hc0; have HC2 := Lib.hid hc2
          clear hb6 hcb hGr2 hB6 hb6' hg6 hzn hzL hlen hc2 hm hc0 hkeep hrc HCS HB5 HCR HROW5
          go_wp2_with fail
          go_region_held3 (fun w' => w'.cell? ⟨w.heap.size, 0, none⟩ = some (.int .i64 s.st) ∧ w'.cell? ⟨w.heap.size, 2, none⟩ = some (.int .i64 zn) ∧ w'.cell? ⟨w5.heap.size, 0, none⟩ = some (.int .i64 (L.length : Int)) ∧
              w'.cell? ⟨w5.heap.size, 2, none⟩ = some (.int .i64 cs.s0) ∧ w'.cell? ⟨IB, zn, none⟩ = some (.bool true) ∧ w'.cell? ⟨TB, zn, none⟩ = some (.int .i64 cs.s0) ∧ Below w6.heap.size w6 w')
            (exact HK.out _ (by assumption))
            ((go_at_call 27; go_split_ands; refine (HRCH.out _ (by assumption)).mono ?_; rintro e w' ⟨a7, c7, rfl, hB7⟩))
          clear p0 p1 p2 p3 p4 p5 f1 f2 f3 hdr HK HRCH
          go_split_ands
          have hbl : ∀ x ∈ L, 0 ≤ x ∧ x < (n : Int) := fun x hx => by
            have := reachL_rng (s := s) (x := x) (by rw [← HL.out]; exact hx)
            have := HN.out; omega
          have hsrt : Srt ltI L := by rw [HL.out]; exact reachL_srt s
          have HBL := Lib.hid hbl; have HSRT := Lib.hid hsrt
          clear hbl hsrt
          go_wp2_with fail
          go_loopw [13, 14] (fun v13 v14 wr => ∃ k : Nat, k ≤ n ∧ v14 = .int .i64 k ∧ v13 = .int .i64 (cnt L (k : Int) : Int) ∧ Below w6.heap.size w6 wr)
            (fun _ v14 _ => n - (intOf v14).toNat)
          case atStart => exact ⟨0, Nat.zero_le _, rfl, by rw [show cnt L ((0 : Nat) : Int) = 0 from cnt_zero (fun x hx => (HBL.out x hx).1)]; rfl, by assumption⟩
          case round =>
            obtain ⟨k, hk, rfl, rfl, hB⟩ := hrel
            have HB8 := Lib.hid hB
            have hg := HG6.out.below hB
            obtain ⟨z0, y0⟩ := hg.cell0
            have hcl : cnt L (k : Int) ≤ 60 := by have h1 := List.length_filter_le (fun x => decide (x < (k : Int))) L; unfold cnt; omega
            obtain ⟨m, hm⟩ : ∃ m, m = cnt L (k : Int) := ⟨_, rfl⟩
            rw [← hm] at hcl ⊢
            have HM := Lib.hid hm
            have HG7 := Lib.hid hg
            clear hm hg hB
            by_cases hlt : k < n
            · have hks : (k : Int) < s.st := by have := HN.out; omega
              obtain ⟨_, _, _, _, c5, c6⟩ := HG7.out.cells hlt
              have hkn : (k : Int) < (n : Int) := by omega
              have hcs := cnt_succ HSRT.out (k : Int)
              rw [← HM.out] at hcs
              by_cases hin : (k : Int) ∈ L
              · have e1 : decide ((k : Int) ∈ L) = true := by simp [hin]
                have e2 : toOf s.norm (k : Int) = (m : Int) := by
                  rw [toOf_cnt (by rw [reachL_norm, ← HL.out]; exact hin), reachL_norm, ← HL.out, ← HM.out]
                rw [e1] at c5; rw [e2] at c6
                rw [if_pos hin] at hcs
                have e3 : (true != true) = false := rfl
                have e4 : ((m : Int) != (m : Int)) = false := by simp
                have e5 : decide ((0 : Int) ≤ (m : Int)) = true := by simp
                have e6 : decide ((m : Int) ≥ (0 : Int)) = true := by simp
                have HCS := Lib.hid hcs
                clear hin e1 e2 hcs
                go_wp2_with fail
                go_quiet (fail)
                go_wp2
                go_roundw
                case rel => exact ⟨k + 1, by omega, by go_num, by rw [show ((k + 1 : Nat) : Int) = (k : Int) + 1 by omega, HCS.out]; go_num, bdrew HB8.out⟩
                case measure => simp [intOf]; omega
              · have e1 : decide ((k : Int) ∈ L) = false := by simp [hin]
                have e2 : toOf s.norm (k : Int) = -1 := toOf_out (by rw [reachL_norm, ← HL.out]; exact hin)
                rw [e1] at c5; rw [e2] at c6
                rw [if_neg hin, Nat.add_zero] at hcs
                have HCS := Lib.hid hcs
                clear hin e1 e2 hcs
                go_wp2_with fail
                go_quiet (fail)
                go_wp2
                go_roundw
                case rel => exact ⟨k + 1, by omega, by go_num, by rw [show ((k + 1 : Nat) : Int) = (k : Int) + 1 by omega, HCS.out], bdrew HB8.out⟩
                case measure => simp [intOf]; omega
            · obtain rfl : k = n := by omega
              have hks : ¬ (k : Int) < s.st := by have := HN.out; omega
              have hml : m = L.length := by rw [HM.out]; exact cnt_all (fun x hx => (HBL.out x hx).2)
              have hmb : ((m : Int) == cs.st) = true := by rw [HC0.out, hml]; simp
              have HML := Lib.hid hml
              have hBt := HB1.out.trans ((HB6.out.trans (HB8.out.mono HB6.out.size)).mono HB1.out.size)
              have HBT := Lib.hid hBt
              clear hml hBt
              go_wp2_with fail
              have hg1 := HG1.out.below (HB6.out.trans (HB8.out.mono HB6.out.size))
              refine (alive_any hg1).mono ?_
              rintro e w9 ⟨rfl, hB9⟩
              obtain ⟨_, y9⟩ := (HG7.out.below hB9).cell0
              have HB9 := Lib.hid (HBT.out.trans (hB9.mono HBT.out.size))
              clear hB9 hg1
              go_wp2
              go_ret
              exact ⟨rfl, HB9.out⟩
end Go.Proofs.YtfjgedninbpjpaaDoor

/-
  law17.above: the states above, as rows of truths.
-/
import Derived.Test.YtfakdgljilmpkaaGreatDoorG32
namespace Go.Proofs.YtfakdgljilmpkaaGreatDoor
open Go.RowKit Pl

theorem mem_upL {R : Nat → Nat → Bool} {p q : Nat} (hq : q < 320) : (q : Int) ∈ upL R p ↔ R p q = true := by
  unfold upL intsOf idsN
  rw [List.mem_map]
  constructor
  · rintro ⟨x, hx, e⟩
    have : x = q := Int.ofNat.inj e
    subst this
    exact (List.mem_filter.1 hx).2
  · intro h
    exact ⟨q, List.mem_filter.2 ⟨List.mem_range.2 hq, h⟩, rfl⟩

/-- Rows of truths, the first k made. -/
structure UB (w1 wr : World) (n k : Nat) (R : Nat → Nat → Bool) (rb : Nat → Nat) : Prop where
  bel : Below w1.heap.size w1 wr
  out : wr.rowIs w1.heap.size 32 n (fun j => if j < k then .slice (some ⟨rb j, 0, none⟩) n n else .slice none 0 0)
  rows : ∀ j, j < k → w1.heap.size < rb j ∧ rb j < wr.heap.size ∧ wr.rowIs (rb j) 4 n (fun q => .bool (R j q))
theorem UB.call {w1 wr w' : World} {n k : Nat} {R : Nat → Nat → Bool} {rb : Nat → Nat} (h : UB w1 wr n k R rb) (hB : Below wr.heap.size wr w') : UB w1 w' n k R rb :=
  ⟨h.bel.trans (hB.mono h.bel.size), h.out.of_block (hB.block _ h.out.lt), fun j hj => by
    obtain ⟨a, b, c⟩ := h.rows j hj
    exact ⟨a, Nat.lt_of_lt_of_le b hB.size, c.of_block (hB.block _ b)⟩⟩
/-- .. and of row k the first m of L marked. -/
structure UB2 (w1 wr : World) (n k : Nat) (R : Nat → Nat → Bool) (rb : Nat → Nat) (L : List Int) (m : Nat) : Prop where
  bel : Below w1.heap.size w1 wr
  out : wr.rowIs w1.heap.size 32 n (fun j => if j < k + 1 then .slice (some ⟨rb j, 0, none⟩) n n else .slice none 0 0)
  rows : ∀ j, j < k → w1.heap.size < rb j ∧ rb j < wr.heap.size ∧ rb j ≠ rb k ∧ wr.rowIs (rb j) 4 n (fun q => .bool (R j q))
  last : w1.heap.size < rb k ∧ rb k < wr.heap.size ∧ wr.rowIs (rb k) 4 n (fun q => .bool (decide ((q : Int) ∈ L.take m)))
theorem UB.step {w1 wr : World} {n k : Nat} {R : Nat → Nat → Bool} {rb : Nat → Nat} (h : UB w1 wr n k R rb) (L : List Int) :
    UB2 w1 ((wr.setCell ⟨w1.heap.size, k, none⟩ (.slice (some ⟨wr.heap.size, 0, none⟩) n n)).alloc (.cells (madeCells #[.bool false] n) 4)) n k R (fun j => if j = k then wr.heap.size else rb j) L 0 := by
  have hsz := h.out.lt
  have hs := size_setCell wr ⟨w1.heap.size, k, none⟩ (.slice (some ⟨wr.heap.size, 0, none⟩) n n)
  have hset : ∀ b, b < wr.heap.size → b ≠ w1.heap.size → ((wr.setCell ⟨w1.heap.size, k, none⟩ (.slice (some ⟨wr.heap.size, 0, none⟩) n n)).alloc (.cells (madeCells #[.bool false] n) 4)).heap[b]? = wr.heap[b]? := fun b h1 hb => (Below.heap_alloc _ _ _ (by rw [hs]; exact h1)).trans (Below.heap_setCell _ _ _ _ hb)
  refine ⟨(h.bel.setCell (Nat.le_refl _) _).alloc (by rw [hs]; omega) _, ((h.out.set k _).of_block (Below.heap_alloc _ _ _ (by rw [hs]; exact hsz))).congr (fun j _ => ?_), fun j hj => ?_, ?_⟩
  · by_cases e : j = k
    · subst e; simp
    · by_cases e2 : j < k
      · simp [e, e2, show j < k + 1 by omega]
      · simp [e, e2, show ¬ j < k + 1 by omega]
  · obtain ⟨a, b, c⟩ := h.rows j hj
    have hjk : j ≠ k := by omega
    simp only [if_neg hjk, if_true]
    exact ⟨a, by simp [hs]; omega, by omega, c.of_block (hset _ b (by omega))⟩
  · simp only [if_true]
    refine ⟨hsz, by simp [hs], ?_⟩
    have := World.rowIs_made (wr.setCell ⟨w1.heap.size, k, none⟩ (.slice (some ⟨wr.heap.size, 0, none⟩) n n)) (.bool false) n 4
    rw [hs] at this
    exact this.congr (fun j _ => by simp)
theorem UB2.set {w1 wr : World} {n k : Nat} {R : Nat → Nat → Bool} {rb : Nat → Nat} {L : List Int} {m q : Nat} (h : UB2 w1 wr n k R rb L m) (hq : L[m]? = some (q : Int)) : UB2 w1 (wr.setCell ⟨rb k, q, none⟩ (.bool true)) n k R rb L (m + 1) := by
  have hset : ∀ b, b ≠ rb k → (wr.setCell ⟨rb k, q, none⟩ (.bool true)).heap[b]? = wr.heap[b]? := fun b hb => Below.heap_setCell _ _ _ _ hb
  have hl := h.last
  refine ⟨h.bel.setCell (by show w1.heap.size ≤ rb k; omega) _, h.out.of_block (hset _ (by omega)), fun j hj => ?_, hl.1, by rw [size_setCell]; exact hl.2.1, (hl.2.2.set q _).congr (fun j _ => ?_)⟩
  · obtain ⟨a, b, c, d⟩ := h.rows j hj
    exact ⟨a, by rw [size_setCell]; exact b, c, d.of_block (hset _ c)⟩
  · rw [take_snoc hq]
    by_cases e : j = q
    · subst e; simp
    · have : ¬ (j : Int) = (q : Int) := by omega
      simp [e, this]
theorem UB2.done {w1 wr : World} {n k : Nat} {R : Nat → Nat → Bool} {rb : Nat → Nat} (h : UB2 w1 wr n k R rb (upL R k) (upL R k).length) (hn : n ≤ 300) : UB w1 wr n (k + 1) R rb :=
  ⟨h.bel, h.out, fun j hj => by
    by_cases e : j = k
    · subst e
      refine ⟨h.last.1, h.last.2.1, h.last.2.2.congr (fun q hq => ?_)⟩
      rw [List.take_length]
      congr 1
      rw [Bool.eq_iff_iff, decide_eq_true_eq, mem_upL (by omega)]
    · obtain ⟨a, b, _, d⟩ := h.rows j (by omega)
      exact ⟨a, b, d⟩⟩
/-- The answer of law17.above in memory. -/
structure TabB (w : World) (v : Value) (n : Nat) (R : Nat → Nat → Bool) : Prop where
  ex : ∃ (ob : Nat) (rb : Nat → Nat), v = .slice (some ⟨ob, 0, none⟩) n n ∧ w.rowIs ob 32 n (fun j => .slice (some ⟨rb j, 0, none⟩) n n) ∧ ∀ j, j < n → w.rowIs (rb j) 4 n (fun q => .bool (R j q))
theorem TabB.below {w w' : World} {v : Value} {n : Nat} {R : Nat → Nat → Bool} (h : TabB w v n R) (hB : Below w.heap.size w w') : TabB w' v n R := by
  obtain ⟨ob, rb, h1, h2, h3⟩ := h.ex
  exact ⟨ob, rb, h1, h2.of_block (hB.block _ h2.lt), fun j hj => (h3 j hj).of_block (hB.block _ (h3 j hj).lt)⟩

def Ab17 (s : Lts) (n : Nat) (w : World) (e : Ending) (w' : World) : Prop := ∃ (R : Nat → Nat → Bool) (v : Value), e = .returned (.tuple #[v, .bool true]) ∧ Great s n R ∧ TabB w' v n R ∧ Below w.heap.size w w'

set_option maxRecDepth 100000 in
set_option maxHeartbeats 4000000 in
theorem above17_any {p0 : Addr} {n : Nat} {lb s0 : Int} {es : List E} (h : Lts.Right ⟨n, lb, s0, es⟩) (hn3 : n ≤ 25) {a : Option Addr} {b off c : Nat} {w : World} (hG : GErr 0 p0 w) (hT : Tab w) (hS : SlAt encE 3 w a b off es) :
    Calls Tryz.prog 36 #[.agg #[.int .i64 n, .int .i64 lb, .int .i64 s0, .slice a es.length c]] w (Ab17 ⟨n, lb, s0, nf ltE es⟩ n w) := by
  have hB0 := (Below.refl w.heap.size w).alloc (Nat.le_refl _) (Obj.cells #[.int .i64 n, .int .i64 lb, .int .i64 s0, .slice a es.length c] 24)
  have hbx := heap_alloc_new w (Obj.cells #[.int .i64 n, .int .i64 lb, .int .i64 s0, .slice a es.length c] 24)
  have hmb := run_make_row' (P := Tryz.prog) 32 4 (.bool false) 1 Tryz.underlying32 (by kernel_rfl) rfl .i64 .i64 n (by omega) (by omega)
  have hmo := run_make_row' (P := Tryz.prog) 31 32 (.slice none 0 0) 24 Tryz.underlying31 (by kernel_rfl) rfl .i64 .i64 n (by omega) (by omega)
  have HA := Lib.hid (aboveL_any (c := c) h (by omega) (hG.below hB0) (hT.below hB0) (hS.below hB0 (Nat.le_refl _)))
  have HB0 := Lib.hid hB0; have HBX := Lib.hid hbx
  obtain ⟨s, hs⟩ : ∃ s : Lts, s = ⟨n, lb, s0, nf ltE es⟩ := ⟨_, rfl⟩
  rw [← hs] at HA ⊢
  clear hB0 hbx hS hG hT h hs
  go_enter Tryz.func36, Tryz.ntmps36
  go_wp2_with fail
  refine HA.out.mono ?_
  unfold UpPost
  rintro e w1 ⟨R, v, vs, rfl, hgt, hvl, hown, hrows, hB1⟩
  obtain ⟨va, vc, vb, rfl, _, _, hvs, _⟩ := slAt_own lenV hown
  rw [hvl]
  have hx1 := (hB1.block w.heap.size (by simp)).trans HBX.out
  have x0 : w1.cell? ⟨w.heap.size, 0, none⟩ = some (.int .i64 n) := by simp [World.cell?, hx1]
  have xl := (Array.getElem?_eq_some_iff.1 hx1).1
  have hb1 := HB0.out.trans (hB1.mono (by simp))
  have hub : UB w1 (w1.alloc (.cells (madeCells #[.slice none 0 0] n) 32)) n 0 R (fun _ => 0) :=
    ⟨(Below.refl _ _).alloc (Nat.le_refl _) _, (World.rowIs_made w1 (.slice none 0 0) n 32).congr (fun j _ => by simp), fun j hj => by omega⟩
  have HUB := Lib.hid hub; have HVS := Lib.hid hvs; have HROWS := Lib.hid hrows; have HGT := Lib.hid hgt; have HB1 := Lib.hid hb1; have HVL := Lib.hid hvl; have HX1 := Lib.hid hx1
  clear hB1 hx1 hb1 hub hvs hrows hgt hvl hown HA HB0 HBX
  go_wp2_with fail
  go_loopw [7, 9, 44] (fun v7 _ _ wr => ∃ (k : Nat) (rb : Nat → Nat), v7 = .int .i64 k ∧ k ≤ n ∧ UB w1 wr n k R rb) (fun v7 _ _ _ => n - (intOf v7).toNat)
  case atStart => exact ⟨0, _, rfl, Nat.zero_le _, HUB.out⟩
  case round =>
    obtain ⟨k, rb, rfl, hk, hub⟩ := hrel
    have HU := Lib.hid hub
    have hsz := hub.bel.size
    have y0 : wr.cell? ⟨w.heap.size, 0, none⟩ = some (.int .i64 n) := by have := (hub.bel.block w.heap.size xl).trans HX1.out; simp [World.cell?, this]
    have yl : w.heap.size < wr.heap.size := by omega
    clear hub HUB x0
    by_cases hlt : k < n
    · have hkI : (k : Int) < (n : Int) := by omega
      have hol := HU.out.out.lt
      have hof := HU.out.out.frozen k
      have hoc := HU.out.out.cell hlt
      have hvs := HVS.out.below HU.out.bel (Nat.le_refl _)
      have hvln := HVL.out
      obtain rfl := hvs.ad (by omega)
      obtain ⟨x, hx⟩ := getElem?_of_lt (xs := vs) (i := k) (by omega)
      have hxr := HROWS.out k x hx
      obtain ⟨ia, ic, ib, rfl, _, _, hsl, _⟩ := slAt_own lenI hxr
      have cv := HVS.out.cv hx
      have cvl := HVS.out.lt (by omega)
      simp only [Nat.zero_add] at cv
      have HSL := Lib.hid hsl
      obtain ⟨L, hL⟩ : ∃ L, L = upL R k := ⟨_, rfl⟩
      have hLl : L.length ≤ 320 := by rw [hL]; unfold upL; rw [intsOf_len]; exact idsN_le _ _
      rw [← hL] at cv
      rw [← hL] at HSL
      have HL := Lib.hid hL
      have h2 := HU.out.step L
      have H2 := Lib.hid h2; have HCV := Lib.hid cv
      clear hvs hvln hx hxr hsl hL h2 cv
      go_upto_region 9 with fail
      obtain ⟨W, hW⟩ : ∃ W, W = (wr.setCell ⟨w1.heap.size, k, none⟩ (.slice (some ⟨wr.heap.size, 0, none⟩) n n)).alloc (.cells (madeCells #[.bool false] n) 4) := ⟨_, rfl⟩
      obtain ⟨rb2, hrb⟩ : ∃ rb2, rb2 = (fun j => if j = k then wr.heap.size else rb j) := ⟨_, rfl⟩
      rw [← hW, ← hrb] at H2
      rw [← hW]
      have cv2 : W.cell? ⟨vb, k, none⟩ = some (.slice ia L.length ic) := by rw [H2.out.bel.cell (p := ⟨vb, k, none⟩) cvl]; exact HCV.out
      have vl2 : vb < W.heap.size := Nat.lt_of_lt_of_le cvl H2.out.bel.size
      clear hW hrb HU y0 yl hol hof hoc hsz
      go_wp2_with fail
      go_loopw [9, 44] (fun _ v44 wr => ∃ m : Nat, v44 = .int .i64 m ∧ m ≤ L.length ∧ UB2 w1 wr n k R rb2 L m) (fun _ v44 _ => L.length - (intOf v44).toNat)
      case atStart => exact ⟨0, rfl, Nat.zero_le _, H2.out⟩
      case round =>
        obtain ⟨m, rfl, hm, h2⟩ := hrel
        have H2 := Lib.hid h2
        have hsz := h2.bel.size
        have y0 : wr.cell? ⟨w.heap.size, 0, none⟩ = some (.int .i64 n) := by have := (h2.bel.block w.heap.size xl).trans HX1.out; simp [World.cell?, this]
        have yl : w.heap.size < wr.heap.size := by omega
        clear h2 cv2 vl2
        by_cases hmL : m < L.length
        · obtain ⟨z, hz⟩ := getElem?_of_lt hmL
          obtain ⟨i, hi, rfl⟩ : ∃ i : Nat, i < n ∧ z = (i : Int) := by
            have h1 := List.mem_of_getElem? hz
            rw [HL.out] at h1
            unfold upL intsOf idsN at h1
            obtain ⟨i, h3, rfl⟩ := List.mem_map.1 h1
            exact ⟨i, HGT.out.left.rng k i hlt (List.mem_filter.1 h3).2, rfl⟩
          have hsl := HSL.out.below H2.out.bel (Nat.le_refl _)
          obtain rfl := hsl.ad (by omega)
          have c0 := hsl.ci hz
          have cl := hsl.lt (by omega)
          simp only [Nat.zero_add] at c0
          have hmI : (m : Int) < (L.length : Int) := by omega
          have hiI : (i : Int) < (n : Int) := by omega
          have d1 : decide ((i : Int) < 0) = false := by simp
          have d2 : decide ((n : Int) ≤ (i : Int)) = false := by simp; omega
          have o1 := H2.out.out.cell hlt
          rw [if_pos (by omega)] at o1
          have ol := H2.out.out.lt
          have q1 := H2.out.last.2.2.cell hi
          have q2 := H2.out.last.2.2.frozen i
          have ql := H2.out.last.2.1
          have H3 := Lib.hid (H2.out.set hz)
          clear hsl hz H2
          go_wp2_with fail
          go_roundw
          case rel => exact ⟨m + 1, by go_num, by omega, H3.out⟩
          case measure => simp [intOf]; omega
        · obtain rfl : m = L.length := by omega
          have H3 : RowKit.Hid (UB w1 wr n (k + 1) R rb2) := Lib.hid ((by have := H2.out; rw [HL.out] at this; exact this.done (by omega)))
          clear H2
          go_wp2_with fail
          go_roundw
          case rel => exact ⟨k + 1, rb2, by go_num, by omega, H3.out⟩
          case measure => simp [intOf]; omega
    · obtain rfl : n = k := by omega
      have HT2 : RowKit.Hid (TabB wr (.slice (some ⟨w1.heap.size, 0, none⟩) n n) n R) := Lib.hid ⟨w1.heap.size, rb, rfl, HU.out.out.congr (fun j hj => by rw [if_pos hj]), fun j hj => (HU.out.rows j hj).2.2⟩
      have HBF := Lib.hid (HB1.out.trans (HU.out.bel.mono HB1.out.size))
      go_wp2_with fail
      go_ret2
      unfold Ab17
      exact ⟨R, _, rfl, HGT.out, HT2.out, HBF.out⟩
end Go.Proofs.YtfakdgljilmpkaaGreatDoor

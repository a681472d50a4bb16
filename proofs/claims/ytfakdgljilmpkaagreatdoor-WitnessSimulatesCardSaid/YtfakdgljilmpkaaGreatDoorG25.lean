/-
  simul.above: the greatest simulation.
  simul: Below, Above, Classes.
  simul.Above: of every state the states above it, listed.
-/
import Derived.Test.YtfakdgljilmpkaaGreatDoorG24
import Derived.Test.YtfakdgljilmpkaaGreatDoorG21
import Derived.WalkMore
import Derived.Deep.LoopGhost
namespace Go.Proofs.YtfakdgljilmpkaaGreatDoor
open Go.RowKit Pl

/-- The rows while they are made and thinned, the world otherwise as it was at w1. -/
structure AW (w1 wr : World) (n : Nat) (R : Nat → Nat → Bool) : Prop where
  rel : RelR wr w1.heap.size n R
  blk : RowBlk wr w1.heap.size
  bel : Below w1.heap.size w1 wr
theorem RowBlk.lt {w : World} {b : Nat} (h : RowBlk w b) : b < w.heap.size := by obtain ⟨c, h⟩ := h; exact (Array.getElem?_eq_some_iff.1 h).1
theorem AW.call {w1 wr w' : World} {n : Nat} {R : Nat → Nat → Bool} (h : AW w1 wr n R) (hB : Below wr.heap.size wr w') : AW w1 w' n R :=
  ⟨h.rel.below hB, h.blk.of_block (hB.block _ h.blk.lt), h.bel.trans (hB.mono h.bel.size)⟩
theorem AW.put {w1 wr : World} {n : Nat} {R : Nat → Nat → Bool} (h : AW w1 wr n R) {p i : Nat} (hp : p < n) (hi : i < 320) : AW w1 (wr.setCell ⟨w1.heap.size, p * 5 + i / 64, none⟩ (.int .u64 (wj (putF (R p) i) (i / 64) : Nat))).drew n (putR R p i) :=
  ⟨h.rel.set hp hi (fun _ hj => wj_put_ne _ hj), h.blk.set _ _, (h.bel.setCell (Nat.le_refl _) _).drew⟩
theorem AW.drop {w1 wr : World} {n : Nat} {R : Nat → Nat → Bool} (h : AW w1 wr n R) {p i : Nat} (hp : p < n) (hi : i < 320) : AW w1 (wr.setCell ⟨w1.heap.size, p * 5 + i / 64, none⟩ (.int .u64 (wj (dropF (R p) i) (i / 64) : Nat))).drew n (dropR R p i) :=
  ⟨h.rel.set hp hi (fun _ hj => wj_drop_ne _ hj), h.blk.set _ _, (h.bel.setCell (Nat.le_refl _) _).drew⟩
theorem SlAt.oth {α : Type} {enc : α → List Value} {m : Nat} {w w' : World} {a : Option Addr} {b off : Nat} {xs : List α} (h : SlAt enc m w a b off xs) (hb : w'.heap[b]? = w.heap[b]?) (hs : w.heap.size ≤ w'.heap.size) : SlAt enc m w' a b off xs :=
  ⟨h.ad, fun hp => Nat.lt_of_lt_of_le (h.lt hp) hs, fun i x hx j u hu => by
    rw [World.cell?_of_block (w := w) (a := ⟨b, off + i * m + j, none⟩) hb]; exact h.cell i x hx j u hu⟩
theorem intsOf_at {L : List Nat} {m i : Nat} (h : L[m]? = some i) : (intsOf L)[m]? = some (i : Int) := by unfold intsOf; rw [List.getElem?_map, h]; rfl
theorem AW.congr {w1 wr : World} {n : Nat} {R R' : Nat → Nat → Bool} (h : AW w1 wr n R) (e : R = R') : AW w1 wr n R' := e ▸ h

def zRow : Value := .agg #[.int .u64 0, .int .u64 0, .int .u64 0, .int .u64 0, .int .u64 0]
theorem rowRow : IsRow Tryz.prog 125 130 5 40 zRow := isRow_of Tryz.underlying125 (by kernel_rfl) rfl (by decide)

theorem fullR_none (n : Nat) : fullR n 0 0 = fun _ _ => false := by
  funext a i
  unfold fullR
  simp
theorem aw_made {w2 w3 : World} {n : Nat} (hown : w3.ownsRow w2.heap.size 130 5 (.slice (some ⟨w2.heap.size, 0, none⟩) n n) n (madeCells zRow.cells (n * 5)).toList) (hg : w2.grownBy w3 none) : AW w2 w3 n (fullR n 0 0) := by
  have hB : Below w2.heap.size w2 w3 := (Below.refl _ _).grown hg (Nat.le_refl _) (fun k e => by cases e)
  rcases hown.2 with ⟨h, _⟩ | ⟨g, cap, cur, hv, _, hgg, _, _, hcs, htk⟩
  · cases h
  · injection hv with h1 h2 h3
    injection h1 with h1
    injection h1 with h1
    subst h1
    refine ⟨⟨fun p hp j hj => ?_⟩, ⟨cur, hgg⟩, hB⟩
    rw [fullR_none, wj_none]
    have hk : p * 5 + j < n * 5 := by omega
    have h5 : cur.toList[p * 5 + j]? = (madeCells zRow.cells (n * 5)).toList[p * 5 + j]? := by
      rw [← htk, List.getElem?_take, if_pos hk]
    have h6 : (madeCells zRow.cells (n * 5))[p * 5 + j]? = some (.int .u64 0) := by
      have hz : ∀ m, m < 5 → zRow.cells[m]! = .int .u64 0 := fun m hm => by
        have : m = 0 ∨ m = 1 ∨ m = 2 ∨ m = 3 ∨ m = 4 := by omega
        rcases this with rfl | rfl | rfl | rfl | rfl <;> rfl
      have hsz : zRow.cells.size = 5 := rfl
      unfold madeCells
      rw [Array.getElem?_map, Array.getElem?_range, if_pos hk]
      simp only [Option.map_some, hsz]
      rw [hz _ (Nat.mod_lt _ (by decide))]
    have h7 : cur[p * 5 + j]? = some (.int .u64 0) := by
      rw [← Array.getElem?_toList, h5, Array.getElem?_toList]; exact h6
    simp [World.cell?, hgg, h7]

set_option maxRecDepth 100000 in
set_option maxHeartbeats 4000000 in
theorem above_any {p : Addr} {n : Nat} {lb s0 : Int} {es : List E} (h : Lts.Right ⟨n, lb, s0, es⟩) (hn3 : n ≤ 300) {a : Option Addr} {b off c : Nat} {w : World} (hG : GErr 0 p w) (hT : Tab w) (hS : SlAt encE 3 w a b off es) :
    Calls Tryz.prog 78 #[.agg #[.int .i64 n, .int .i64 lb, .int .i64 s0, .slice a es.length c]] w fun e w' =>
      ∃ ob R, e = .returned (.tuple #[.slice (some ⟨ob, 0, none⟩) n n, .nilIface]) ∧ RelR w' ob n R ∧ RowBlk w' ob ∧ w.heap.size ≤ ob ∧ Great ⟨n, lb, s0, nf ltE es⟩ n R ∧ Below w.heap.size w w' := by
  have hB0 := (Below.refl w.heap.size w).alloc (Nat.le_refl _) (Obj.cells #[.int .i64 n, .int .i64 lb, .int .i64 s0, .slice a es.length c] 24)
  have hbx := heap_alloc_new w (Obj.cells #[.int .i64 n, .int .i64 lb, .int .i64 s0, .slice a es.length c] 24)
  have hN := new_ok' (c := c) h (hG.below hB0) (hS.below hB0 (Nat.le_refl _))
  have hT0 := hT.below hB0
  have hR := h.norm
  have hR : Lts.Right ⟨n, lb, s0, nf ltE es⟩ := hR
  obtain ⟨s, hs⟩ : ∃ s : Lts, s = ⟨n, lb, s0, nf ltE es⟩ := ⟨_, rfl⟩
  have hst : s.st = (n : Int) := by rw [hs]
  rw [← hs] at hN hR ⊢
  have HRS := Lib.hid hR
  have HN := Lib.hid hN; have HB0 := Lib.hid hB0; have HBX := Lib.hid hbx; have HT := Lib.hid hT0; have HST := Lib.hid hst
  clear hN hB0 hbx hT hT0 hS hG h hs hst hR
  have hnI : decide ((300 : Int) < (n : Int)) = false := by simp; omega
  obtain ⟨ti, hti, htz, htsz, htb⟩ := rowRow.info
  go_enter Tryz.func78, Tryz.ntmps78
  go_wp2_with fail
  go_step3
  go_wp2_with fail
  refine HN.out.mono ?_
  rintro e w1 ⟨gb, rfl, hGr, hB1, _⟩
  have HB1 := Lib.hid (HB0.out.trans (hB1.mono (by simp)))
  have hx1 := (hB1.block w.heap.size (by simp)).trans HBX.out
  have HT1 := Lib.hid (HT.out.below hB1)
  have HGR := Lib.hid hGr; have HX1 := Lib.hid hx1
  have x0 : w1.cell? ⟨w.heap.size, 0, none⟩ = some (.int .i64 n) := by simp [World.cell?, hx1]
  have xl := (Array.getElem?_eq_some_iff.1 hx1).1
  clear hB1 hGr hx1 HBX HN HB0 HT
  go_wp2_with fail
  refine (newTable_any HGR.out (by rw [HST.out]; omega)).mono ?_
  rintro e w2 ⟨rfl, hTO, hB2⟩
  have hx2 := (hB2.block w.heap.size xl).trans HX1.out
  have y0 : w2.cell? ⟨w.heap.size, 0, none⟩ = some (.int .i64 n) := by simp [World.cell?, hx2]
  have yl := (Array.getElem?_eq_some_iff.1 hx2).1
  have HB2 := Lib.hid (HB1.out.trans (hB2.mono HB1.out.size))
  have HTO := Lib.hid hTO; have HG2 := Lib.hid (HGR.out.below hB2); have HT2 := Lib.hid (HT1.out.below hB2)
  clear hTO hB2 hx2 x0 xl HX1 HB1 HT1 HGR
  go_wp2_with (at_make; refine wpList_make_full _ rfl _ _ 125 rfl w2.heap.size 130 ti zRow 5 Tryz.underlying125 hti htz htsz .i64 .i64 (n : Int) (n : Int) n rfl rfl rfl rfl (by rw [htb]; omega) (by unfold maxLen; omega) (Nat.le_refl _) ?_; intro w3 hown3 hg3)
  have hAW0 := aw_made hown3 hg3
  have HA0 := Lib.hid hAW0
  clear hown3 hg3 hAW0 hti htz htsz htb y0 yl
  go_loopw [8, 9, 37] (fun _ _ v37 wr => ∃ k : Nat, v37 = .int .i64 k ∧ k ≤ n ∧ AW w2 wr n (fullR n k 0)) (fun _ _ v37 _ => n - (intOf v37).toNat)
  case atStart => exact ⟨0, rfl, Nat.zero_le _, HA0.out⟩
  case round =>
    obtain ⟨k, rfl, hk, haw⟩ := hrel
    have HAK := Lib.hid haw
    clear haw HA0
    by_cases hlt : k < n
    · have hkI : (k : Int) < (n : Int) := by omega
      go_wp2_with fail
      go_loopw [9, 42] (fun _ v42 wr => ∃ j : Nat, v42 = .int .i64 j ∧ j ≤ n ∧ AW w2 wr n (fullR n k j)) (fun _ v42 _ => n - (intOf v42).toNat)
      case atStart => exact ⟨0, rfl, Nat.zero_le _, HAK.out⟩
      case round =>
        obtain ⟨j, rfl, hj, haw⟩ := hrel
        have HAJ := Lib.hid haw
        have hobl := haw.blk.lt
        clear haw HAK
        by_cases hjl : j < n
        · have hjI : (j : Int) < (n : Int) := by omega
          have HP := Lib.hid (put_any (HAJ.out.rel.row k hlt) (fun j => HAJ.out.blk.thawed _) (show j < 320 by omega))
          go_wp2_with fail
          refine HP.out.mono ?_
          rintro e w4 ⟨rfl, hw4⟩
          have ha4 := (HAJ.out.put hlt (show j < 320 by omega)).congr (fullR_put hjl)
          rw [← hw4] at ha4
          have HA4 := Lib.hid ha4
          clear ha4 hw4 HP HAJ hobl
          go_wp2_with fail
          go_roundw
          case rel => exact ⟨j + 1, by go_num, by omega, HA4.out⟩
          case measure => simp [intOf]; omega
        · obtain rfl : j = n := by omega
          have HAJ2 := Lib.hid (HAJ.out.congr (fullR_next j k))
          clear HAJ
          go_wp2_with fail
          go_roundw
          case rel => exact ⟨k + 1, by go_num, by omega, HAJ2.out⟩
          case measure => simp [intOf]; omega
    · obtain rfl : n = k := by omega
      have hn2 : n * n ≤ 90000 := Nat.mul_le_mul hn3 hn3
      clear hnI
      go_wp2_with fail
      go_step3
      go_wp2_with fail
      go_loopg [10, 11, 13] (cntR n (fullR n n 0)) (fun g _ _ _ wr => ∃ R, g = cntR n R ∧ AW w2 wr n R ∧ Left s n R)
      case atStart => exact ⟨_, rfl, HAK.out, left_full s n⟩
      case round =>
        obtain ⟨R0, hgk, haw, hleft⟩ := hrel
        have HA0 := Lib.hid haw; have HLF := Lib.hid hleft; have HGK := Lib.hid hgk
        have hob := haw.blk.lt
        clear haw hleft hgk HAK
        obtain ⟨K, hK⟩ : ∃ K, K = cntR n R0 := ⟨_, rfl⟩
        have hK9 : K ≤ 90000 := by rw [hK]; exact Nat.le_trans (cntR_le n R0) hn2
        have HK := Lib.hid hK
        clear hK
        go_wp2_with fail
        go_loopw [10, 11, 13, 54] (fun v10 _ _ v54 wr => ∃ (q c : Nat) (R : Nat → Nat → Bool), v54 = .int .i64 q ∧ v10 = .int .i64 c ∧ q ≤ n ∧ AW w2 wr n R ∧ R4 s n R K c q) (fun _ _ _ v54 _ => n - (intOf v54).toNat)
        case atStart => exact ⟨0, 0, R0, rfl, rfl, Nat.zero_le _, HA0.out, ⟨HLF.out, by rw [HK.out]; omega, fun _ a ha => by omega⟩⟩
        case round =>
          obtain ⟨q, c, R, rfl, rfl, hq, haw, h4⟩ := hrel
          have HA := Lib.hid haw; have H4 := Lib.hid h4
          have hob := haw.blk.lt
          have hcK : c ≤ K := by have := h4.cnt; omega
          clear haw h4 HA0 HLF
          by_cases hqn : q < n
          · have hqI : (q : Int) < (n : Int) := by omega
            have HID := Lib.hid (ids_any (HA.out.rel.row q hqn) (HT2.out.below HA.out.bel))
            obtain ⟨L, hL⟩ : ∃ L, L = idsN (R q) 320 := ⟨_, rfl⟩
            have H5 := Lib.hid (H4.out.open hqn hn3)
            have hLl : L.length ≤ 320 := by rw [hL]; exact idsN_le _ _
            rw [← hL] at H5
            clear H4
            go_wp2_with fail
            refine HID.out.mono ?_
            unfold IdsPost
            rw [← hL]
            rintro e wa ⟨v, rfl, hown, hBa⟩
            obtain ⟨ia, ic, ib, rfl, _, _, hsl, hib⟩ := slAt_own lenI hown
            rw [intsOf_len] at hib ⊢
            have HSL := Lib.hid hsl; have HA5 := Lib.hid (HA.out.call hBa)
            have HIB : RowKit.Hid (0 < L.length → ib ≠ w2.heap.size) := Lib.hid (fun h => by have := hib h; omega)
            clear hown hBa hsl hib hL HID HA
            go_wp2_with fail
            go_loopw [10, 13, 62] (fun v10 _ v62 wr => ∃ (m c : Nat) (R : Nat → Nat → Bool), v62 = .int .i64 m ∧ v10 = .int .i64 c ∧ m ≤ L.length ∧ AW w2 wr n R ∧ R5 s n R K c q L m ∧ SlAt encI 1 wr ia ib 0 (intsOf L)) (fun _ _ v62 _ => L.length - (intOf v62).toNat)
            case atStart => exact ⟨0, c, R, rfl, rfl, Nat.zero_le _, HA5.out, H5.out, HSL.out⟩
            case round =>
              obtain ⟨m, c, R, rfl, rfl, hm, haw, h5, hsl⟩ := hrel
              have HA := Lib.hid haw; have H5 := Lib.hid h5; have HSL := Lib.hid hsl
              have hob := haw.blk.lt
              have hcK : c ≤ K := by have := h5.cnt; omega
              clear haw h5 hsl HA5
              by_cases hmL : m < L.length
              · obtain ⟨i, hi⟩ := getElem?_of_lt hmL
                have hsl := HSL.out
                have hil : 0 < (intsOf L).length := by rw [intsOf_len]; omega
                obtain rfl := hsl.ad hil
                have c0 := hsl.ci (intsOf_at hi)
                have cl := hsl.lt hil
                simp only [Nat.zero_add] at c0
                have hin : i < n := H5.out.left.rng q i hqn (H5.out.rest m i (Nat.le_refl _) hi)
                have hmI : (m : Int) < (L.length : Int) := by omega
                have hne : ib ≠ w2.heap.size := HIB.out (by omega)
                have HI := Lib.hid hi
                have HD := Lib.hid (does_any HG2.out HA.out.bel (HTO.out.below HA.out.bel) HST.out hn3 HA.out.rel q hin)
                clear hsl hil hi
                go_wp2_with fail
                refine HD.out.mono ?_
                rintro e w5 ⟨rfl, hB5⟩
                have hsl5 := HSL.out.below hB5 (Nat.le_refl _)
                have ha5 := HA.out.call hB5
                have hob5 := ha5.blk.lt
                have HS5 := Lib.hid hsl5; have HA5 := Lib.hid ha5
                clear hsl5 ha5 hB5 HD HSL HA c0 cl
                obtain ⟨d, hd⟩ : ∃ d, d = doesB s R q i := ⟨_, rfl⟩
                rw [← hd]
                have HDD := Lib.hid hd
                clear hd
                cases d
                · have HDR := Lib.hid (drop_any (HA5.out.rel.row q hqn) (fun j => HA5.out.blk.thawed _) (show i < 320 by omega))
                  go_wp2_with fail
                  refine HDR.out.mono ?_
                  rintro e w6 ⟨rfl, hw6⟩
                  have ha6 := HA5.out.drop hqn (show i < 320 by omega)
                  have hsl6 : SlAt encI 1 w6 (some ⟨ib, 0, none⟩) ib 0 (intsOf L) := HS5.out.oth (by rw [hw6]; exact Below.heap_setCell _ _ _ _ hne) (by rw [hw6]; show _ ≤ (World.setCell _ _ _).heap.size; rw [size_setCell]; exact Nat.le_refl _)
                  rw [← hw6] at ha6
                  have h6 := H5.out.drop HRS.out HST.out hqn HI.out HDD.out.symm
                  have HA6 := Lib.hid ha6; have HS6 := Lib.hid hsl6; have H6 := Lib.hid h6
                  clear ha6 hsl6 hw6 h6 HDR HA5 HS5 H5
                  go_wp2_with fail
                  go_roundw
                  case rel => exact ⟨m + 1, c + 1, dropR R q i, by go_num, by go_num, by omega, HA6.out, H6.out, HS6.out⟩
                  case measure => simp [intOf]; omega
                · have H6 := Lib.hid (H5.out.keep HI.out HDD.out.symm)
                  clear H5
                  go_wp2_with fail
                  go_roundw
                  case rel => exact ⟨m + 1, c, R, by go_num, rfl, by omega, HA5.out, H6.out, HS5.out⟩
                  case measure => simp [intOf]; omega
              · obtain rfl : m = L.length := by omega
                have H6 := Lib.hid H5.out.done
                clear H5
                go_wp2_with fail
                go_roundw
                case rel => exact ⟨q + 1, c, R, by go_num, rfl, by omega, HA.out, H6.out⟩
                case measure => simp [intOf]; omega
          · obtain rfl : n = q := by omega
            by_cases hc : c = 0
            · subst hc
              have HGT : RowKit.Hid (Great s n R) := Lib.hid ⟨H4.out.left, fun a i ha => H4.out.zero rfl a ha i⟩
              clear H4
              go_wp2_with fail
              try rw [Exit.noGoto_ret]
              go_ret2
              exact ⟨_, R, rfl, HA.out.rel, HA.out.blk, HB2.out.size, HGT.out, HB2.out.trans (HA.out.bel.mono HB2.out.size)⟩
            · have hcb : ((c : Int) == 0) = false := by simp; omega
              have hmeas : cntR n R < gk := by have := H4.out.cnt; rw [HGK.out, ← HK.out]; omega
              go_wp2_with fail
              go_roundg (cntR n R)
              case rel => exact ⟨R, rfl, HA.out, H4.out.left⟩
              case measure => exact hmeas
end Go.Proofs.YtfakdgljilmpkaaGreatDoor

namespace Go.Proofs.YtfakdgljilmpkaaGreatDoor
open Go.RowKit Pl

set_option maxRecDepth 100000 in
set_option maxHeartbeats 4000000 in
theorem below_any {p0 : Addr} {n : Nat} {lb s0 : Int} {es : List E} (h : Lts.Right ⟨n, lb, s0, es⟩) (hn3 : n ≤ 300) {a : Option Addr} {b off c : Nat} {w : World} (hG : GErr 0 p0 w) (hT : Tab w) (hS : SlAt encE 3 w a b off es) {p q : Nat} (hp : p < n) (hq : q < n) :
    Calls Tryz.prog 38 #[.agg #[.int .i64 n, .int .i64 lb, .int .i64 s0, .slice a es.length c], .int .i64 p, .int .i64 q] w fun e w' =>
      ∃ R, e = .returned (.tuple #[.bool (R p q), .nilIface]) ∧ Great ⟨n, lb, s0, nf ltE es⟩ n R ∧ Below w.heap.size w w' := by
  have hB0 := (Below.refl w.heap.size w).alloc (Nat.le_refl _) (Obj.cells #[.int .i64 n, .int .i64 lb, .int .i64 s0, .slice a es.length c] 24)
  have hbx := heap_alloc_new w (Obj.cells #[.int .i64 n, .int .i64 lb, .int .i64 s0, .slice a es.length c] 24)
  have HA := Lib.hid (above_any (c := c) h hn3 (hG.below hB0) (hT.below hB0) (hS.below hB0 (Nat.le_refl _)))
  have HB0 := Lib.hid hB0; have HBX := Lib.hid hbx
  clear hB0 hbx hS hG hT h
  have d1 : decide ((p : Int) < 0) = false := by simp
  have d2 : decide ((q : Int) < 0) = false := by simp
  have d3 : decide ((n : Int) ≤ (p : Int)) = false := by simp; omega
  have d4 : decide ((n : Int) ≤ (q : Int)) = false := by simp; omega
  have hpI : (p : Int) < (n : Int) := by omega
  go_enter Tryz.func38, Tryz.ntmps38
  go_wp2_with fail
  refine HA.out.mono ?_
  rintro e w1 ⟨ob, R, rfl, hR, hblk, hob, hgt, hB1⟩
  have hx1 := (hB1.block w.heap.size (by simp)).trans HBX.out
  have x0 : w1.cell? ⟨w.heap.size, 0, none⟩ = some (.int .i64 n) := by simp [World.cell?, hx1]
  have xl := (Array.getElem?_eq_some_iff.1 hx1).1
  have HB1 := Lib.hid (HB0.out.trans (hB1.mono (by simp)))
  have HH := Lib.hid (has_any (hR.row p hp) (show q < 320 by omega))
  have HGT := Lib.hid hgt
  have obl := hblk.lt
  clear hB1 hx1 hR hgt hblk HA HBX HB0
  go_wp2_with fail
  refine HH.out.mono ?_
  rintro e w2 ⟨rfl, rfl⟩
  go_wp2_with fail
  go_ret2
  exact ⟨R, rfl, HGT.out, HB1.out⟩
end Go.Proofs.YtfakdgljilmpkaaGreatDoor

namespace Go.Proofs.YtfakdgljilmpkaaGreatDoor
open Go.RowKit Pl

theorem own_blockS {w w' : World} {base : Nat} {e : TypeId} {k n : Nat} {v : Value} {xs : List Value} (h : w.ownsRow base e k v n xs) (hb : ∀ g, v.ownBlock = some g → w'.heap[g]? = w.heap[g]?) : w'.ownsRow base e k v n xs := by
  refine ⟨h.1, ?_⟩
  rcases h.2 with h2 | ⟨g, cap, cur, hv, hbg, hg, r⟩
  · exact .inl h2
  · exact .inr ⟨g, cap, cur, hv, hbg, by rw [hb g (by rw [hv]; rfl)]; exact hg, r⟩

theorem rowII : IsRow Tryz.prog 26 33 1 24 (.slice none 0 0) := isRow_of Tryz.underlying26 (by kernel_rfl) rfl (by decide)

/-- The states above p, listed. -/
def upL (R : Nat → Nat → Bool) (p : Nat) : List Int := intsOf (idsN (R p) 320)

/-- Lists in memory, one of each of the first states; the rows of bits stand. -/
structure UpK (B : Nat) (w0 wr : World) (ob n : Nat) (R : Nat → Nat → Bool) (v : Value) (vs : List Value) : Prop where
  bel : Below B w0 wr
  rel : RelR wr ob n R
  blk : RowBlk wr ob
  own : wr.ownsRow B 33 1 v vs.length (vs.flatMap encV)
  rows : ∀ (j : Nat) (x : Value), vs[j]? = some x → wr.ownsRow B 3 1 x (upL R j).length ((upL R j).flatMap encI)
theorem UpK.call {B : Nat} {w0 wr w' : World} {ob n : Nat} {R : Nat → Nat → Bool} {v : Value} {vs : List Value} (h : UpK B w0 wr ob n R v vs) (hB0 : B ≤ wr.heap.size) (hB : Below wr.heap.size wr w') : UpK B w0 w' ob n R v vs :=
  ⟨h.bel.trans (hB.mono hB0), h.rel.below hB, h.blk.of_block (hB.block _ h.blk.lt), own_below h.own hB, fun j x hx => own_below (h.rows j x hx) hB⟩
theorem own_type {w : World} {base : Nat} {e : TypeId} {k n : Nat} {v : Value} {xs : List Value} (h : w.ownsRow base e k v n xs) {g : Nat} (hg : v.ownBlock = some g) : ∃ cur, w.heap[g]? = some (.cells cur e (0, 0)) := by
  rcases h.2 with ⟨rfl, _⟩ | ⟨g2, cap, cur, rfl, _, hgg, _⟩
  · cases hg
  · simp only [Value.ownBlock, Option.some.injEq] at hg; subst hg; exact ⟨cur, hgg⟩
theorem own_ne {w : World} {base base2 : Nat} {e e2 : TypeId} {k k2 n n2 : Nat} {v v2 : Value} {xs xs2 : List Value} (h : w.ownsRow base e k v n xs) (h2 : w.ownsRow base2 e2 k2 v2 n2 xs2) (hne : e ≠ e2) {g : Nat} (hg : v.ownBlock = some g) : v2.ownBlock ≠ some g := fun hg2 => by
  obtain ⟨c1, e1⟩ := own_type h hg
  obtain ⟨c2, e3⟩ := own_type h2 hg2
  rw [e1] at e3
  injection e3 with e3; injection e3 with _ e3; exact hne e3
theorem UpK.push {B : Nat} {w0 wr w' : World} {ob n : Nat} {R : Nat → Nat → Bool} {v v' x : Value} {vs : List Value} (h : UpK B w0 wr ob n R v vs) (hB0 : B ≤ wr.heap.size) (hx : wr.ownsRow B 3 1 x (upL R vs.length).length ((upL R vs.length).flatMap encI))
    (hown : w'.ownsRow B 33 1 v' (vs.length + 1) (vs.flatMap encV ++ [x])) (hg : wr.grownBy w' v.ownBlock) : UpK B w0 w' ob n R v' (vs ++ [x]) := by
  have hblk : ∀ b, b < wr.heap.size → v.ownBlock ≠ some b → w'.heap[b]? = wr.heap[b]? := fun b h1 h2 => hg.block b h1 (fun e => h2 e.symm)
  have hrow : ∀ {y : Value} {L : List Int}, wr.ownsRow B 3 1 y L.length (L.flatMap encI) → w'.ownsRow B 3 1 y L.length (L.flatMap encI) := fun {y L} hy =>
    own_blockS hy (fun g hg2 => hblk g (Array.getElem?_eq_some_iff.1 (own_type hy hg2).choose_spec).1 (own_ne hy h.own (by decide) hg2))
  have hob : v.ownBlock ≠ some ob := fun e => by
    obtain ⟨c1, e1⟩ := own_type h.own e
    obtain ⟨c2, e2⟩ := h.blk
    rw [e1] at e2; injection e2 with e2; injection e2 with _ e2; exact absurd e2 (by decide)
  have hb := hblk ob h.blk.lt hob
  refine ⟨h.bel.grown hg hB0 (fun k e => (h.own.lt k e).1), ⟨fun p hp => (h.rel.row p hp).of_block hb⟩, h.blk.of_block hb, ?_, fun j y hy => ?_⟩
  · rw [List.flatMap_append, List.length_append]; exact hown
  · rcases Nat.lt_or_ge j vs.length with hj | hj
    · rw [List.getElem?_append_left hj] at hy
      exact hrow (h.rows j y hy)
    · have hq2 : j = vs.length := by have := (List.getElem?_eq_some_iff.1 hy).1; simp at this; omega
      subst hq2
      simp at hy
      subst hy
      exact hrow hx

theorem copyRow {w : World} {F : Nat → Bool} {T : TypeId} : RowAt (w.alloc (.cells #[.int .u64 (wj F 0 : Nat), .int .u64 (wj F 1 : Nat), .int .u64 (wj F 2 : Nat), .int .u64 (wj F 3 : Nat), .int .u64 (wj F 4 : Nat)] T)) w.heap.size 0 F := fun j hj => by
  have hj' : j = 0 ∨ j = 1 ∨ j = 2 ∨ j = 3 ∨ j = 4 := by omega
  rcases hj' with rfl | rfl | rfl | rfl | rfl <;> simp [go_sem]

/-- What Above answers. -/
def UpPost (s : Lts) (n : Nat) (w : World) (e : Ending) (w' : World) : Prop :=
  ∃ (R : Nat → Nat → Bool) (v : Value) (vs : List Value), e = .returned (.tuple #[v, .nilIface]) ∧ Great s n R ∧ vs.length = n ∧ w'.ownsRow w.heap.size 33 1 v vs.length (vs.flatMap encV) ∧
    (∀ (j : Nat) (x : Value), vs[j]? = some x → w'.ownsRow w.heap.size 3 1 x (upL R j).length ((upL R j).flatMap encI)) ∧ Below w.heap.size w w'

set_option maxRecDepth 100000 in
set_option maxHeartbeats 4000000 in
theorem aboveL_any {p0 : Addr} {n : Nat} {lb s0 : Int} {es : List E} (h : Lts.Right ⟨n, lb, s0, es⟩) (hn3 : n ≤ 300) {a : Option Addr} {b off c : Nat} {w : World} (hG : GErr 0 p0 w) (hT : Tab w) (hS : SlAt encE 3 w a b off es) :
    Calls Tryz.prog 41 #[.agg #[.int .i64 n, .int .i64 lb, .int .i64 s0, .slice a es.length c]] w (UpPost ⟨n, lb, s0, nf ltE es⟩ n w) := by
  unfold UpPost
  have hB0 := (Below.refl w.heap.size w).alloc (Nat.le_refl _) (Obj.cells #[.int .i64 n, .int .i64 lb, .int .i64 s0, .slice a es.length c] 24)
  have HA := Lib.hid (above_any (c := c) h hn3 (hG.below hB0) (hT.below hB0) (hS.below hB0 (Nat.le_refl _)))
  have HB0 := Lib.hid hB0; have HT0 := Lib.hid hT
  clear hB0 hS hG hT h
  go_enter Tryz.func41, Tryz.ntmps41
  go_wp2_with fail
  refine HA.out.mono ?_
  rintro e w1 ⟨ob, R, rfl, hR, hblk, hob, hgt, hB1⟩
  have HGT := Lib.hid hgt
  have hup : UpK w.heap.size w w1 ob n R (.slice none 0 0) [] := ⟨HB0.out.trans (hB1.mono (by simp)), hR, hblk, ⟨by simp, .inl ⟨rfl, rfl⟩⟩, by simp⟩
  have HUP := Lib.hid hup
  have hs1 := hup.bel.size
  clear hB1 hR hgt hblk HA HB0 hup
  go_wp2_with fail
  go_loopw [6, 8, 19] (fun v6 _ v19 wr => ∃ (k : Nat) (vs : List Value), v19 = .int .i64 k ∧ k ≤ n ∧ vs.length = k ∧ UpK w.heap.size w wr ob n R v6 vs ) (fun _ _ v19 _ => n - (intOf v19).toNat)
  case atStart => exact ⟨0, [], rfl, Nat.zero_le _, rfl, HUP.out⟩
  case round =>
    obtain ⟨k, vs, rfl, hk, hvl, hup⟩ := hrel
    have HU := Lib.hid hup; have HVL := Lib.hid hvl
    have hsz := hup.bel.size
    have obl := hup.blk.lt
    clear hup hvl HUP
    by_cases hlt : k < n
    · have hkI : (k : Int) < (n : Int) := by omega
      have r0 := HU.out.rel.row k hlt 0 (by omega)
      have r1 := HU.out.rel.row k hlt 1 (by omega)
      have r2 := HU.out.rel.row k hlt 2 (by omega)
      have r3 := HU.out.rel.row k hlt 3 (by omega)
      have r4 := HU.out.rel.row k hlt 4 (by omega)
      simp only [Nat.add_zero] at r0
      go_wp2_with fail
      refine (ids_any copyRow ((HT0.out.below HU.out.bel).below ((Below.refl wr.heap.size wr).alloc (Nat.le_refl _) _))).mono ?_
      unfold IdsPost
      rintro e w5 ⟨v, rfl, hown, hB5⟩
      have hB5' : Below wr.heap.size wr w5 := ((Below.refl wr.heap.size wr).alloc (Nat.le_refl _) _).trans (hB5.mono (by simp))
      have hu5 := HU.out.call hsz hB5'
      have hs5 := hB5'.size
      have hl : (intsOf (idsN (R k) 320)) = upL R k := rfl
      rw [hl] at hown
      have hown2 := own_mono hown (show w.heap.size ≤ _ by simp; omega)
      obtain ⟨ia, ic, ib, rfl, _, _, _, _⟩ := slAt_own lenI hown
      have HO5 := Lib.hid hown2; have HU5 := Lib.hid hu5
      have hul : (upL R k).length ≤ 320 := by unfold upL; rw [intsOf_len]; exact idsN_le _ _
      obtain ⟨ul, hul2⟩ : ∃ ul, ul = (upL R k).length := ⟨_, rfl⟩
      rw [← hul2] at hul ⊢
      have HUL := Lib.hid hul2
      clear hown hown2 hB5 hB5' hu5 hl r0 r1 r2 r3 r4 HU hul2
      go_wp2_with (at_builtin; refine wpList_lies rfl _ _ 26 rfl rowII (base := w.heap.size) (by simp; omega) rfl (own_below HU5.out.own ((Below.refl w5.heap.size w5).alloc (Nat.le_refl _) _)) ⟨w5.heap.size, 0, none⟩ 1 1 [.slice ia ul ic] rfl rfl (cells1 (by simp [go_sem])) (by simp [Value.oneCell']) (by omega) (by rw [HVL.out]; omega) (by unfold maxLen; rw [HVL.out]; omega) _ rfl ?_; intro g cap w6 hown6 hg6 _ _)
      have hba := (Below.refl w5.heap.size w5).alloc (Nat.le_refl _) (.cells #[.slice ia ul ic] 33)
      have hnx := (HU5.out.call (by omega) hba).push (x := .slice ia ul ic) (v' := .slice (some ⟨g, 0, none⟩) (vs.length + 1) cap) (by simp; omega) (by rw [HVL.out]; exact own_below (by have := HO5.out; rw [← HUL.out] at this ⊢; exact this) hba) hown6 hg6
      have HNX := Lib.hid hnx
      clear hnx hown6 hg6 HU5 HO5 hba
      go_roundw
      case rel => exact ⟨k + 1, vs ++ [.slice ia ul ic], by go_num, by omega, by simp [HVL.out], HNX.out⟩
      case measure => simp [intOf]; omega
    · obtain rfl : n = k := by omega
      have hown := HU.out.own
      obtain ⟨va, vc, vb, rfl, _, _, _, _⟩ := slAt_own lenV hown
      clear hown
      go_wp2_with fail
      go_ret2
      exact ⟨R, _, vs, rfl, HGT.out, HVL.out, HU.out.own, HU.out.rows, HU.out.bel⟩
end Go.Proofs.YtfakdgljilmpkaaGreatDoor

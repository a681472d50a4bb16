/-
  semblanceref7.Canon, Classes, Together; system.Together; numbers lent.
  semblanceref7.Together (split off Forms2).
  semblanceref13.Classes.
  weak's road of a system with more than 300 states.
  weak.Same, of a right system with few states.
  law13.WeakClasses.
-/
import Derived.Test.YtdhloijdefnkpaaGreatDoorGTauH
import Derived.Test.YtdhloijdefnkpaaGreatDoorGFault
import Derived.Test.YtdhloijdefnkpaaGreatDoorGPl12
import Derived.Deep.DeepMust
import Derived.Test.YtdhloijdefnkpaaGreatDoorGRefNext
import Derived.Test.YtdhloijdefnkpaaGreatDoorRefSteps
import Derived.Test.YtdhloijdefnkpaaGreatDoorGWkQ
import Derived.Test.YtdhloijdefnkpaaGreatDoorGPl9
import Derived.Deep.RegionHeldLaw
import Derived.Deep.QuietTactic
import Derived.BigQuiet
import Derived.Test.YtdhloijdefnkpaaGreatDoorAlive13
import Derived.Test.YtdhloijdefnkpaaGreatDoorGRefRight
import Derived.Deep.RegionHeld3
namespace Go.Proofs.YtdhloijdefnkpaaGreatDoor
open Go.RowKit Pl Go.Maps

/-- The world within the reference's Canon. -/
structure RC (w wr : World) (OB n : Nat) (f : Nat → Value) (v : Value) (seen : List Int) : Prop where
  below : Below w.heap.size w wr
  row : wr.rowIs OB 3 n f
  own : wr.ownsRow (OB + 1) 3 1 v seen.length (seen.flatMap encI)
  ob : w.heap.size ≤ OB

theorem RC.set {w wr : World} {OB n : Nat} {f : Nat → Value} {v : Value} {seen : List Int} (h : RC w wr OB n f v seen) (i : Nat) (x : Value) : RC w (wr.setCell ⟨OB, i, none⟩ x) OB n (fun j => if j = i then x else f j) v seen :=
  ⟨h.below.setCell h.ob _, h.row.set i _, ownsRow_setCell_below h.own (by show OB < OB + 1; omega) _, h.ob⟩
theorem RC.congr {w wr : World} {OB n : Nat} {f g : Nat → Value} {v : Value} {seen : List Int} (h : RC w wr OB n f v seen) (e : ∀ i, i < n → f i = g i) : RC w wr OB n g v seen :=
  ⟨h.below, h.row.congr e, h.own, h.ob⟩
theorem RC.call {w wr w' : World} {OB n : Nat} {f : Nat → Value} {v : Value} {seen : List Int} (h : RC w wr OB n f v seen) (hB : Below wr.heap.size wr w') : RC w w' OB n f v seen :=
  ⟨h.below.trans (hB.mono h.below.size), h.row.of_block (hB.block _ h.row.lt), own_below h.own hB, h.ob⟩
theorem RC.push {w wr w1 : World} {OB n : Nat} {f : Nat → Value} {v v' : Value} {seen ys : List Int} (h : RC w wr OB n f v seen) (hown : w1.ownsRow (OB + 1) 3 1 v' ys.length (ys.flatMap encI)) (hg : wr.grownBy w1 v.ownBlock) : RC w w1 OB n f v' ys :=
  ⟨h.below.grown hg h.below.size (fun k hk => by have := (h.own.lt k hk).1; have := h.ob; omega), h.row.of_block (hg.block _ h.row.lt (fun e => by have := (h.own.lt _ e.symm).1; omega)), hown, h.ob⟩

theorem RC.keepc {w wr w1 : World} {OB n : Nat} {f : Nat → Value} {v : Value} {seen : List Int} (h : RC w wr OB n f v seen) (hg : wr.grownBy w1 v.ownBlock) {k : Nat} (hk : k < n) :
    w1.cell? ⟨OB, k, none⟩ = some (f k) ∧ w1.frozen? ⟨OB, k, none⟩ = false ∧ OB < w1.heap.size := by
  have h2 : w1.rowIs OB 3 n f := h.row.of_block (hg.block _ h.row.lt (fun e => by have := (h.own.lt _ e.symm).1; omega))
  exact ⟨h2.cell hk, h2.frozen k, h2.lt⟩

theorem own_drewN {w : World} {base : Nat} {e : TypeId} {k n m : Nat} {v : Value} {xs : List Value} (h : w.ownsRow base e k v n xs) : (w.drewN m).ownsRow base e k v n xs := h

theorem cell_new1 {w : World} {x : Value} {T : TypeId} {g : Nat} (h : g = w.heap.size) : (w.alloc (.cells #[x] T)).cell? ⟨g, 0, none⟩ = some x := by subst h; simp [go_sem]

theorem idx_first : ∀ {l : List Int} {j : Nat} {x : Int}, (∀ i, i < j → l[i]? ≠ some x) → l[j]? = some x → l.idxOf x = j
  | [], j, x, _, h => by simp at h
  | y :: l, 0, x, _, h => by simp at h; subst h; simp
  | y :: l, j + 1, x, hn, h => by
    have h0 := hn 0 (by omega)
    have hb : (y == x) = false := by simpa using h0
    rw [List.idxOf_cons, hb, idx_first (j := j) (fun i hi => by have := hn (i + 1) (by omega); simpa using this) (by simpa using h)]; rfl
theorem not_mem_of {l : List Int} {x : Int} (h : ∀ i, i < l.length → l[i]? ≠ some x) : x ∉ l := by
  intro hx
  obtain ⟨i, hi⟩ := List.getElem?_of_mem hx
  exact h i (List.getElem?_eq_some_iff.1 hi).1 hi

set_option maxRecDepth 100000 in
set_option maxHeartbeats 2000000 in
theorem refCanon_any {w : World} {a : Option Addr} {b off c : Nat} {xs : List Int} (hS : SlAt encI 1 w a b off xs) (hn : xs.length ≤ 1000000) :
    Calls Tryz.prog 77 #[.slice a xs.length c] w fun e w' => ∃ v, e = .returned v ∧ w'.ownsRow w.heap.size 3 1 v xs.length ((canon xs).flatMap encI) ∧ Below w.heap.size w w' := by
  obtain ⟨n, hnn⟩ : ∃ n, n = xs.length := ⟨_, rfl⟩
  rw [← hnn] at hn ⊢
  have hmk := run_make_row' (P := Tryz.prog) 33 3 (.int .i64 0) 8 Tryz.underlying33 (by kernel_rfl) rfl .i64 .i64 n (by omega) (by omega)
  have HS := Lib.hid hS; have HNN := Lib.hid hnn
  clear hS hnn
  go_enter Tryz.func77, Tryz.ntmps77
  go_wp2_with fail
  have h0 : RC w (w.alloc (.cells (madeCells #[.int .i64 0] n) 3)) w.heap.size n (rowAtK xs 0) (.slice none 0 0) (dist (xs.take 0)) :=
    ⟨(Below.refl _ _).alloc (Nat.le_refl _) _, (World.rowIs_made w (.int .i64 0) n 3).congr (fun i _ => by simp [rowAtK]), ⟨rfl, .inl ⟨rfl, rfl⟩⟩, Nat.le_refl _⟩
  have H0 := Lib.hid h0
  clear h0 hmk
  go_loopw [4, 5, 6] (fun v4 v5 _ wr => ∃ (k : Nat) (aa : Option Addr) (cc : Nat), k ≤ n ∧ v5 = .int .i64 k ∧ v4 = .slice aa (dist (xs.take k)).length cc ∧ RC w wr w.heap.size n (rowAtK xs k) (.slice aa (dist (xs.take k)).length cc) (dist (xs.take k)))
    (fun _ v5 _ _ => n - (intOf v5).toNat)
  case atStart => exact ⟨0, none, 0, Nat.zero_le _, rfl, rfl, H0.out⟩
  case round =>
    obtain ⟨k, aa, cc, hk, rfl, rfl, hrc⟩ := hrel
    have HR := Lib.hid hrc
    clear hrc H0
    by_cases hlt : k < n
    · obtain ⟨x, hx⟩ := getElem?_of_lt (xs := xs) (i := k) (by have := HNN.out; omega)
      have hkn : (k : Int) < (n : Int) := by omega
      have HX := Lib.hid hx
      have hdl : (dist (xs.take k)).length ≤ k := by have := dist_len (xs.take k); simp at this; omega
      obtain ⟨m, hm⟩ : ∃ m, m = (dist (xs.take k)).length := ⟨_, rfl⟩
      rw [← hm] at hdl ⊢
      have HM := Lib.hid hm
      clear hx hm
      go_wp2_with fail
      go_loopw [6] (fun v6 w2 => ∃ j u : Nat, j ≤ m ∧ v6 = .int .i64 j ∧ (∀ i, i < j → (dist (xs.take k))[i]? ≠ some x) ∧ w2 = wr.drewN u)
        (fun v6 _ => m - (intOf v6).toNat)
      case atStart => exact ⟨0, 0, Nat.zero_le _, rfl, by intro i hi; omega, rfl⟩
      case round =>
        obtain ⟨j, u, hj, rfl, hne, rfl⟩ := hrel
        have HNE := Lib.hid hne
        clear hne
        have hS2 := HS.out.below HR.out.below (Nat.le_refl _)
        obtain rfl := hS2.ad (by have := HNN.out; omega)
        have hcx := hS2.ci HX.out
        have hct : wr.cell? ⟨w.heap.size, k, none⟩ = some (.int .i64 0) := by have := HR.out.row.cell hlt; simpa [rowAtK] using this
        have hft : wr.frozen? ⟨w.heap.size, k, none⟩ = false := HR.out.row.frozen k
        have hxb := hS2.lt (by have := HNN.out; omega)
        have hwl : w.heap.size < wr.heap.size := HR.out.row.lt
        clear hS2
        by_cases hjm : j < m
        · obtain ⟨ga, gc, g, hv, _, _, hsl, _⟩ := slAt_own lenI HR.out.own
          simp only [Value.slice.injEq] at hv
          obtain ⟨rfl, _, rfl⟩ := hv
          have hjd : j < (dist (xs.take k)).length := by rw [← HM.out]; exact hjm
          obtain rfl := hsl.ad (by omega)
          obtain ⟨y, hy⟩ := getElem?_of_lt hjd
          have hcy := hsl.ci hy
          simp only [Nat.zero_add] at hcy
          have hjm' : (j : Int) < (m : Int) := by omega
          have hjmd : decide ((j : Int) < (m : Int)) = true := by simp; omega
          have HY := Lib.hid hy
          clear hsl hy hjd
          by_cases hxy : y = x
          · have e1 : (y != x) = false := by simp [hxy]
            have e2 : (y == x) = true := by simp [hxy]
            have e3 : ((j : Int) == (m : Int)) = false := by simp; omega
            have HXY := Lib.hid hxy
            clear hxy
            go_wp2_with fail
            go_quiet (fail)
            go_wp2
            have hy2 := HY.out
            rw [HXY.out] at hy2
            have hix := idx_first HNE.out hy2
            have hin : x ∈ dist (xs.take k) := List.mem_of_getElem? hy2
            have hd : dist (xs.take (k + 1)) = dist (xs.take k) := by rw [take_snoc HX.out, dist_snoc]; unfold addN; rw [if_pos hin]
            have h1 := fun uu => ((HR.out.call (bdrew (n := uu) (Below.refl _ _))).set k (.int .i64 j)).congr (g := rowAtK xs (k + 1)) (fun i _ => by
              have := rowAtK_step HX.out i
              rw [hd, hix] at this
              exact this)
            have hml : m = (dist (xs.take (k + 1))).length := by rw [hd]; exact HM.out
            rw [← hd] at h1
            have H1 := Lib.hid h1
            have HD := Lib.hid hml
            clear h1 hix hin hd hy2 hml
            go_roundw
            case rel => exact ⟨k + 1, _, _, by omega, by go_num, by rw [HD.out], H1.out _⟩
            case measure => simp [intOf]; omega
          · have e1 : (y != x) = true := by simp [hxy]
            have e2 : (y == x) = false := by simp [hxy]
            have HXY := Lib.hid hxy
            clear hxy
            go_wp2_with fail
            go_quiet (fail)
            go_wp2
            go_roundw
            case rel => exact ⟨j + 1, _, by omega, by go_num, by
              intro i hi
              by_cases e : i = j
              · subst e; rw [HY.out]; intro h; exact HXY.out (by simpa using h)
              · exact HNE.out i (by omega), rfl⟩
            case measure => simp [intOf]; omega
        · obtain rfl : j = m := by omega
          have hjmd : decide ((j : Int) < (j : Int)) = false := by simp
          have e3 : ((j : Int) == (j : Int)) = true := by simp
          go_wp2_with fail
          go_quiet (fail)
          have hrj : ∀ uu, RC w ((wr.drewN uu).alloc (.cells #[.int .i64 x] 3)) w.heap.size n (rowAtK xs k) (.slice aa j cc) (dist (xs.take k)) := fun uu => by
            have h := HR.out; rw [← HM.out] at h; exact (h.call (bdrew (n := uu) (Below.refl _ _))).call ((Below.refl _ _).alloc (Nat.le_refl _) _)
          have hownj : ∀ uu, ((wr.drewN uu).alloc (.cells #[.int .i64 x] 3)).ownsRow (w.heap.size + 1) 3 1 (.slice aa j cc) j ((dist (xs.take k)).flatMap encI) := fun uu => by
            have h := (hrj uu).own; rw [← HM.out] at h; exact h
          have HRJ := Lib.hid hrj
          have HOJ := Lib.hid hownj
          have hbb : ∀ uu, w.heap.size + 1 ≤ ((wr.drewN uu).alloc (.cells #[.int .i64 x] 3)).heap.size := fun uu => by
            have h1 : wr.heap.size + 1 ≤ ((wr.drewN uu).alloc (.cells #[.int .i64 x] 3)).heap.size := by simp
            omega
          have HBB := Lib.hid hbb
          clear hownj hbb hrj
          go_wp2_with (at_builtin; go_must (refine wpList_app1 rfl _ _ _ rfl rowI (Below.refl _ _) (HBB.out _) rfl (HOJ.out _) ⟨wr.heap.size, 0, none⟩ 1 1 [.int .i64 x] rfl rfl (cells1 (cell_new1 rfl)) (by simp [Value.oneCell']) (by decide) (by omega) (by unfold maxLen; omega) ?_); intro g cap w1 hown1 _ hg1; have kp := RC.keepc (HRJ.out _) hg1 hlt; have kp0 := kp.1; have kp1 := kp.2.1; have kp2 := kp.2.2; clear kp)
          have hmem : x ∉ dist (xs.take k) := not_mem_of (fun i hi => HNE.out i (by have := HM.out; omega))
          have hd : dist (xs.take (k + 1)) = dist (xs.take k) ++ [x] := by rw [take_snoc HX.out, dist_snoc]; unfold addN; rw [if_neg hmem]
          have hix : (dist (xs.take (k + 1))).idxOf x = j := by rw [hd, List.idxOf_append, HM.out]; simp [hmem]
          have hlen : j + 1 = (dist (xs.take (k + 1))).length := by rw [hd, List.length_append, HM.out]; rfl
          have h1 := (RC.push (v' := .slice (some ⟨g, 0, none⟩) (j + 1) cap) (ys := dist (xs.take (k + 1))) (HRJ.out _) (by rw [← hlen, hd, List.flatMap_append]; exact hown1) hg1).set k (.int .i64 (j : Int))
          have h2 := h1.congr (g := rowAtK xs (k + 1)) (fun i _ => by
            have := rowAtK_step HX.out i
            rw [hix] at this
            exact this)
          have hlen2 := hlen
          rw [hlen] at h2
          have H2 := Lib.hid h2; have HL := Lib.hid hlen2
          clear hmem hd hix hlen h1 h2 hlen2 hown1 hg1 kp0 kp1 kp2
          go_roundw
          case rel => exact ⟨k + 1, some ⟨g, 0, none⟩, cap, by omega, by go_num, by rw [← HL.out], H2.out⟩
          case measure => simp [intOf]; omega
    · obtain rfl : k = n := by omega
      go_wp2
      go_ret
      refine ⟨_, rfl, own_rowIs HR.out.row (by rw [canon_len]; exact HNN.out.symm) ?_ (by unfold maxLen; omega) (Nat.le_refl _), HR.out.below⟩
      intro i x hx
      rw [canon_get] at hx
      obtain ⟨y, hy, rfl⟩ := Option.map_eq_some_iff.1 hx
      have hi := (List.getElem?_eq_some_iff.1 hy).1
      unfold rowAtK
      rw [if_pos (by have := HNN.out; omega), List.getD_eq_getElem?_getD, hy]; rfl
end Go.Proofs.YtdhloijdefnkpaaGreatDoor

namespace Go.Proofs.YtdhloijdefnkpaaGreatDoor
open Go.RowKit Pl Go.Maps

set_option maxRecDepth 100000 in
theorem refTogether_any {w : World} {a : Option Addr} {b off c : Nat} {xs : List Int} (hS : SlAt encI 1 w a b off xs) (hn : xs.length ≤ 1000000) :
    Calls Tryz.prog 41 #[.slice a xs.length c] w fun e w' => e = .returned (.int .i64 ((dist xs).length : Int)) ∧ Below w.heap.size w w' := by
  have hq := refCanon_any (c := c) hS hn
  have HQ := Lib.hid hq
  clear hS hq
  go_enter Tryz.func41, Tryz.ntmps41
  go_wp2_with fail
  refine HQ.out.mono ?_
  rintro e w1 ⟨v, rfl, hown, hB⟩
  rw [← canon_len xs] at hown
  obtain ⟨a1, c1, b1, rfl, _, _, h1, _⟩ := slAt_own lenI hown
  obtain ⟨n, hnn⟩ : ∃ n, n = (canon xs).length := ⟨_, rfl⟩
  rw [← hnn]
  have hn' : n ≤ 1000000 := by rw [hnn, canon_len]; exact hn
  have H1 := Lib.hid h1; have HB := Lib.hid hB; have HNN := Lib.hid hnn
  clear hown hB h1 HQ hn hnn
  go_wp2_with fail
  go_loopw [4, 5] (fun v4 v5 w2 => ∃ k : Nat, k ≤ n ∧ v5 = .int .i64 k ∧ v4 = .int .i64 (nUp xs k : Int) ∧ w2 = w1)
    (fun _ v5 _ => n - (intOf v5).toNat)
  case atStart => exact ⟨0, Nat.zero_le _, rfl, by simp [nUp, dist], rfl⟩
  case round =>
    obtain ⟨k, hk, rfl, rfl, rfl⟩ := hrel
    have hup := nUp_le xs k
    obtain ⟨m, hm⟩ : ∃ m, m = nUp xs k := ⟨_, rfl⟩
    rw [← hm] at hup ⊢
    have HM := Lib.hid hm
    clear hm
    by_cases hlt : k < n
    · obtain ⟨y, hy⟩ := getElem?_of_lt (xs := canon xs) (i := k) (by rw [← HNN.out]; exact hlt)
      obtain rfl := H1.out.ad (by rw [← HNN.out]; omega)
      have hc := H1.out.ci hy
      simp only [Nat.zero_add] at hc
      have hkn : (k : Int) < (n : Int) := by omega
      rw [canon_get] at hy
      obtain ⟨x, hx, rfl⟩ := Option.map_eq_some_iff.1 hy
      have hs := nUp_canon hx
      have hb : ((dist xs).idxOf x : Int) ≤ 1000000 := by
        have h1 := dist_len xs
        have h2 : (dist xs).idxOf x ≤ (dist xs).length := List.idxOf_le_length
        have h3 := HNN.out
        rw [canon_len] at h3
        omega
      obtain ⟨z, hz⟩ : ∃ z : Int, z = ((dist xs).idxOf x : Int) := ⟨_, rfl⟩
      have hz0 : 0 ≤ z := by omega
      rw [← hz] at hc hs hb
      rw [← HM.out] at hs
      have HS := Lib.hid hs
      clear hy hx hs hz
      by_cases hle : (m : Int) ≤ z
      · go_wp2
        go_roundw
        case rel => exact ⟨k + 1, by omega, by go_num, by have := HS.out; rw [if_pos hle] at this; rw [this], by first | rfl | trivial⟩
        case measure => simp [intOf]; omega
      · go_wp2
        go_roundw
        case rel => exact ⟨k + 1, by omega, by go_num, by have := HS.out; rw [if_neg hle] at this; rw [this], by first | rfl | trivial⟩
        case measure => simp [intOf]; omega
    · obtain rfl : k = n := by omega
      have hmm : m = (dist xs).length := by
        have h3 := HNN.out; rw [canon_len] at h3
        rw [HM.out]; unfold nUp; rw [List.take_of_length_le (by omega)]
      have HMM := Lib.hid hmm
      clear hmm
      go_wp2
      go_ret
      exact ⟨ret_i (a := (m : Int)) (by rw [HMM.out]), HB.out⟩

end Go.Proofs.YtdhloijdefnkpaaGreatDoor

namespace Go.Proofs.YtdhloijdefnkpaaGreatDoor
open Go.RowKit Pl

set_option maxRecDepth 100000 in
set_option maxHeartbeats 8000000 in
theorem refClasses_any {s : Lts} {n lb : Nat} (hr : s.Right) (hn : s.st = (n : Int)) (hlb : s.lb = (lb : Int)) (h40 : n ≤ 40) {a : Option Addr} {b off c : Nat} {w : World} (hS : SlAt encE 3 w a b off s.es) (hc : s.es.length ≤ c) (hcm : c ≤ maxLen) :
    Calls Tryz.prog 19 #[.agg #[.int .i64 s.st, .int .i64 s.lb, .int .i64 s.s0, .slice a s.es.length c]] w fun e w' => ∃ (cb : Nat) (C : Nat → Int), e = .returned (.slice (some ⟨cb, 0, none⟩) n n) ∧ SlAt encI 1 w' (some ⟨cb, 0, none⟩) cb 0 (fl n C) ∧ WkRes s n lb C ∧ w.heap.size ≤ cb ∧ Below w.heap.size w w' := by
  have hmk := run_make_row' (P := Tryz.prog) 33 3 (.int .i64 0) 8 Tryz.underlying33 (by kernel_rfl) rfl .i64 .i64 n (by omega) (by omega)
  have hB0 := (Below.refl w.heap.size w).alloc (Nat.le_refl _) (Obj.cells #[.int .i64 s.st, .int .i64 s.lb, .int .i64 s.s0, .slice a s.es.length c] 24)
  have hbx := heap_alloc_new w (Obj.cells #[.int .i64 s.st, .int .i64 s.lb, .int .i64 s.s0, .slice a s.es.length c] 24)
  have HST := Lib.hid (refSteps_any hr hn hlb (by omega) (hS.below hB0 (Nat.le_refl _)) hc hcm)
  obtain ⟨el, hel⟩ : ∃ el, el = s.es.length := ⟨_, rfl⟩
  rw [hn, ← hel] at HST hB0 hbx ⊢
  have HB0 := Lib.hid hB0; have HBX := Lib.hid hbx; have HR := Lib.hid hr; have HN := Lib.hid hn; have HLB := Lib.hid hlb
  clear hS hB0 hbx hr hn hlb hel hc hcm
  go_enter Tryz.func19, Tryz.ntmps19
  go_wp2_with fail
  refine HST.out.mono ?_
  rintro e w1 ⟨ob, rfl, hso, hob, hB1⟩
  have hb1 := HB0.out.trans (hB1.mono (by simp))
  have hx := (hB1.block w.heap.size (by simp)).trans HBX.out
  have xl := (Array.getElem?_eq_some_iff.1 hx).1
  have x0 : w1.cell? ⟨w.heap.size, 0, none⟩ = some (.int .i64 n) := by simp [World.cell?, hx]
  have hrw := World.rowIs_made w1 (.int .i64 0) n 3
  have hq1 := (Below.refl w1.heap.size w1).alloc (Nat.le_refl _) (.cells (madeCells #[.int .i64 0] n) 3)
  have HSO : RowKit.Hid (StepsIn w1 ob n (wkL s n lb)) := Lib.hid hso
  have HB1 := Lib.hid hb1; have HRW := Lib.hid (rowIs_sl (n := n) (f := fun _ => 0) hrw); have HQ1 := Lib.hid hq1
  clear hso hob hB1 hb1 hx HST HB0 HBX hrw hq1
  go_wp2_with fail
  clear x0 xl
  go_loopg [4, 5] (n + 1) (fun g v4 _ wr => ∃ (cb : Nat) (C : Nat → Int), n + 1 ≤ g + (dist (fl n C)).length ∧ v4 = .slice (some ⟨cb, 0, none⟩) n n ∧ SlAt encI 1 wr (some ⟨cb, 0, none⟩) cb 0 (fl n C) ∧ (∀ K, KOk s n lb K → HoldsS (satS s n lb K) n C) ∧ canon (fl n C) = fl n C ∧ w1.heap.size ≤ cb ∧ Below w1.heap.size w1 wr)
  case atStart => exact ⟨w1.heap.size, fun _ => 0, by omega, rfl, HRW.out, fun K _ => .zero, canon_zeroW n, Nat.le_refl _, HQ1.out⟩
  case round =>
    obtain ⟨cb, C, hgk, rfl, hrow, hro, hca, hcl, hB⟩ := hrel
    have hcr : ∀ p, p < n → 0 ≤ C p ∧ C p ≤ 1000 := fun p hp => by have := can_rng hca hp; omega
    have hws := hB.size
    have hnx := refNext_any (c := n) (C := fl n C) (cc := n) (fl_len n C) (by omega) (HSO.out.below hB) (fun p hp => wkL_ok HR.out HN.out HLB.out h40 hp) hrow (fun x hx => by
      obtain ⟨k, hk, rfl⟩ := List.mem_map.1 hx
      exact hcr k (List.mem_range.1 hk))
    have hns := next_wk HR.out HN.out HLB.out hcr
    have hcd : canon (fl n (clf n (fun i => (rep (nkey (fl n C) (wkL s n lb)) i : Int)))) = fl n (clf n (fun i => (rep (nkey (fl n C) (wkL s n lb)) i : Int))) := by rw [← canon_fl, canon_canon]
    obtain ⟨D, hD⟩ : ∃ D : Nat → Int, D = clf n (fun i => (rep (nkey (fl n C) (wkL s n lb)) i : Int)) := ⟨_, rfl⟩
    rw [← hD] at hnx hns hcd
    have HROW := Lib.hid hrow; have HRO := Lib.hid hro; have HCA := Lib.hid hca; have HB := Lib.hid hB; have HNX := Lib.hid hnx; have HNS := Lib.hid hns; have HCD := Lib.hid hcd
    clear hrow hro hca hB HRW HQ1 hnx hns hcd hD hcr
    go_wp2_with fail
    refine HNX.out.mono ?_
    rintro e w2 ⟨nb, rfl, hnw, hnb, hB2⟩
    have hcs := HROW.out.below hB2 (Nat.le_refl _)
    have hT1 := refTogether_any (c := n) hnw (by rw [fl_len]; omega)
    have hT2 : ∀ V, Below w2.heap.size w2 V → _ := fun V (hV : Below w2.heap.size w2 V) => refTogether_any (c := n) (hcs.below hV (Nat.le_refl _)) (by rw [fl_len]; omega)
    rw [fl_len] at hT1
    have HT1 := Lib.hid hT1
    have HT2 : RowKit.Hid (∀ V, Below w2.heap.size w2 V → Calls Tryz.prog 41 #[.slice (some ⟨cb, 0, none⟩) n n] V fun e w' => e = .returned (.int .i64 ((dist (fl n C)).length : Int)) ∧ Below V.heap.size V w') := Lib.hid (fun V hV => by
      have h := hT2 V hV
      rw [fl_len] at h
      exact h)
    have hmore : fl n D ≠ fl n C → (dist (fl n C)).length < (dist (fl n D)).length := next_moreS HNS.out HCA.out HCD.out
    have hle := dist_le n D
    have HMO := Lib.hid hmore
    obtain ⟨dc, hdc⟩ : ∃ dc, dc = (dist (fl n C)).length := ⟨_, rfl⟩
    obtain ⟨dd, hdd⟩ : ∃ dd, dd = (dist (fl n D)).length := ⟨_, rfl⟩
    rw [← hdc] at HT2 HMO hgk
    rw [← hdd] at HT1 HMO hle
    have HNW := Lib.hid hnw; have HCS := Lib.hid hcs
    have HBZ := Lib.hid (HB.out.trans (hB2.mono hws)); have HDD := Lib.hid hdd; have HDC := Lib.hid hdc
    have hnbl : w1.heap.size ≤ nb := by omega
    clear hcs hnw hnb hB2 HNX hT1 hT2 hmore hdc hdd
    by_cases he : dd = dc
    · have hflat : fl n D = fl n C := Classical.byContradiction fun h => by have := HMO.out h; omega
      have heI : (dd : Int) = (dc : Int) := by omega
      have HFE := Lib.hid hflat
      clear hflat
      go_wp2_with fail
      refine HT1.out.mono ?_
      rintro e w3 ⟨rfl, hB3⟩
      have HB3 := Lib.hid hB3
      clear hB3
      go_wp2_with fail
      refine (HT2.out _ HB3.out).mono ?_
      rintro e w4 ⟨rfl, hB4⟩
      have HB4 := Lib.hid (HB3.out.trans (hB4.mono HB3.out.size))
      clear hB4
      go_wp2_with fail
      go_ret
      exact ⟨cb, C, rfl, HCS.out.below HB4.out (Nat.le_refl _), ⟨fun K hK => (HRO.out K hK).done (HNS.out.sat HR.out HN.out HLB.out hK) (fun p hp => fl_inj HFE.out hp), HCA.out, fun p hp => can_rng HCA.out hp⟩, by have := HB1.out.size; omega, HB1.out.trans ((HBZ.out.trans (HB4.out.mono HBZ.out.size)).mono HB1.out.size)⟩
    · have hlt : dc < dd := HMO.out (fun h => he (by rw [HDD.out, HDC.out, h]))
      have heI : ¬ (dd : Int) = (dc : Int) := by omega
      go_wp2_with fail
      refine HT1.out.mono ?_
      rintro e w3 ⟨rfl, hB3⟩
      have HB3 := Lib.hid hB3
      clear hB3
      go_wp2_with fail
      refine (HT2.out _ HB3.out).mono ?_
      rintro e w4 ⟨rfl, hB4⟩
      have HB4 := Lib.hid (HB3.out.trans (hB4.mono HB3.out.size))
      clear hB4
      go_wp2_with fail
      go_roundg (gk - 1)
      case rel => exact ⟨nb, D, by have := HDD.out; omega, rfl, HNW.out.below HB4.out (Nat.le_refl _), fun K hK => (HRO.out K hK).next (HNS.out.sat HR.out HN.out HLB.out hK), HCD.out, hnbl, HBZ.out.trans (HB4.out.mono HBZ.out.size)⟩
      case measure => omega
end Go.Proofs.YtdhloijdefnkpaaGreatDoor

namespace Go.Proofs.YtdhloijdefnkpaaGreatDoor
open Go.RowKit Pl

/-- A fault of this layer over one package error. -/
def FaultV (w : World) (p : Addr) (v : Value) : Prop := FaultAt w v weakName (.iface 285 (.pointer (some p)))
theorem FaultAt.below' {w w' : World} {v i : Value} {l : ByteArray} (h : FaultAt w v l i) (hB : Below w.heap.size w w') : FaultAt w' v l i := h.below hB

set_option maxRecDepth 100000 in
set_option maxHeartbeats 4000000 in
theorem ofWBig_any {p : Addr} {s : Lts} (hr : s.Right) (h300 : 300 < s.st) {a : Option Addr} {b off c : Nat} {w : World} (hG : WkErr p w) (hS : SlAt encE 3 w a b off s.es) :
    Calls Tryz.prog 56 #[.agg #[.int .i64 s.st, .int .i64 s.lb, .int .i64 s.s0, .slice a s.es.length c]] w fun e w' => ∃ q, GErr 3 q w' ∧ e = .returned (.tuple #[.pointer none, .iface 285 (.pointer (some q))]) ∧ Below w.heap.size w w' := by
  have hB0 := (Below.refl w.heap.size w).alloc (Nat.le_refl _) (Obj.cells #[.int .i64 s.st, .int .i64 s.lb, .int .i64 s.s0, .slice a s.es.length c] 24)
  have hbx := heap_alloc_new w (Obj.cells #[.int .i64 s.st, .int .i64 s.lb, .int .i64 s.s0, .slice a s.es.length c] 24)
  have HNW := Lib.hid (new_ok (c := c) hr (hG.sys.below hB0) (hS.below hB0 (Nat.le_refl _)))
  obtain ⟨el, hel⟩ : ∃ el, el = s.es.length := ⟨_, rfl⟩
  rw [← hel] at HNW hB0 hbx ⊢
  have HG := Lib.hid hG; have HB0 := Lib.hid hB0; have HBX := Lib.hid hbx
  have hg1 : decide (300 < s.st) = true := by simp [h300]
  clear hG hS hB0 hbx hr hel
  go_enter Tryz.func56, Tryz.ntmps56
  go_wp2_with fail
  refine HNW.out.mono ?_
  rintro e w1 ⟨gb, rfl, hgr, hB1, _⟩
  have hb1 := HB0.out.trans (hB1.mono (by simp))
  obtain ⟨x0, x1, x2, x3, x4⟩ := sysC ((hB1.block w.heap.size (by simp)).trans HBX.out)
  obtain ⟨q, cq, tq, hgq, _, _⟩ := (HG.out.below hb1).great
  have g0 := hgq.cell; have gl := hgq.lt
  have HB1 := Lib.hid hb1; have HGQ := Lib.hid hgq
  clear hgr hB1 hb1 hgq HNW HB0 HBX
  go_wp2_with fail
  go_quiet (fail)
  go_wp2_with fail
  go_ret2
  exact ⟨q, HGQ.out.below (bdrew (Below.refl _ _)), rfl, bdrew HB1.out⟩

set_option maxRecDepth 100000 in
set_option maxHeartbeats 4000000 in
theorem madeWBig_any {p p2 : Addr} {s : Lts} (hr : s.Right) (h300 : 300 < s.st) {a : Option Addr} {b off c : Nat} {w : World} (hG : WkErr p w) (hL : GErr 4 p2 w) (hS : SlAt encE 3 w a b off s.es) :
    Calls Tryz.prog 29 #[.agg #[.int .i64 s.st, .int .i64 s.lb, .int .i64 s.s0, .slice a s.es.length c]] w fun e w' => ∃ v, e = .returned (.tuple #[.pointer none, v]) ∧ FaultV w' p2 v ∧ Below w.heap.size w w' := by
  have hB0 := (Below.refl w.heap.size w).alloc (Nat.le_refl _) (Obj.cells #[.int .i64 s.st, .int .i64 s.lb, .int .i64 s.s0, .slice a s.es.length c] 24)
  have HOF := Lib.hid (ofWBig_any (c := c) hr h300 (hG.below hB0) (hS.below hB0 (Nat.le_refl _)))
  have HL := Lib.hid hL; have HB0 := Lib.hid hB0
  clear hG hS hB0 hr h300 hL
  go_enter Tryz.func29, Tryz.ntmps29
  go_wp2_with fail
  refine HOF.out.mono ?_
  rintro e w1 ⟨q, hgq, rfl, hB1⟩
  have hb1 := HB0.out.trans (hB1.mono (by simp))
  have hl1 := HL.out.below hb1
  have g0 := hgq.cell; have gl := hgq.lt
  have l0 := hl1.cell; have ll := hl1.lt
  have HIS := Lib.hid (is_raw_same q w1)
  have hfn := faultNew_any weakName 285 (.pointer (some p2))
  unfold weakName at hfn
  have HB1 := Lib.hid hb1
  clear hB1 hb1 hgq HOF HB0 hl1 HL
  go_wp2_with fail
  refine HIS.out.mono ?_
  rintro e w2 ⟨rfl, rfl⟩
  clear HIS
  go_wp2_with fail
  refine (hfn _).mono ?_
  rintro e w3 ⟨rfl, rfl⟩
  have hF : FaultV (w1.alloc (.cells #[.string weakName, .int .i64 0, .int .i64 0, .iface 285 (.pointer (some p2))] 76)) p2 (.iface 73 (.pointer (some ⟨w1.heap.size, 0, none⟩))) := ⟨_, rfl, heap_alloc_new w1 _⟩
  unfold weakName at hF
  have hB := HB1.out.alloc HB1.out.size (.cells #[.string weakName, .int .i64 0, .int .i64 0, .iface 285 (.pointer (some p2))] 76)
  unfold weakName at hB
  have HF := Lib.hid hF; have HB := Lib.hid hB
  clear hF hB hfn
  go_wp2_with fail
  go_ret2
  exact ⟨_, rfl, HF.out, HB.out⟩

set_option maxRecDepth 100000 in
theorem weakClassesBig_any {p p2 : Addr} {s : Lts} (hr : s.Right) (h300 : 300 < s.st) {a : Option Addr} {b off c : Nat} {w : World} (hG : WkErr p w) (hL : GErr 4 p2 w) (hS : SlAt encE 3 w a b off s.es) :
    Calls Tryz.prog 13 #[.agg #[.int .i64 s.st, .int .i64 s.lb, .int .i64 s.s0, .slice a s.es.length c]] w fun e w' => ∃ v, e = .returned (.tuple #[.slice none 0 0, v]) ∧ FaultV w' p2 v ∧ Below w.heap.size w w' := by
  have hB0 := (Below.refl w.heap.size w).alloc (Nat.le_refl _) (Obj.cells #[.int .i64 s.st, .int .i64 s.lb, .int .i64 s.s0, .slice a s.es.length c] 24)
  have HMD := Lib.hid (madeWBig_any (c := c) hr h300 (hG.below hB0) (hL.below hB0) (hS.below hB0 (Nat.le_refl _)))
  have HB0 := Lib.hid hB0
  clear hG hS hB0 hr hL h300
  go_enter Tryz.func13, Tryz.ntmps13
  go_wp2_with fail
  refine HMD.out.mono ?_
  rintro e w1 ⟨v, rfl, hF, hB1⟩
  obtain ⟨pb, rfl, hpb1⟩ := id hF.ex
  have HF := Lib.hid hF; have HB1 := Lib.hid (HB0.out.trans (hB1.mono (by simp)))
  clear hF hB1 hpb1 HMD HB0
  go_wp2_with fail
  go_ret2
  exact ⟨_, rfl, HF.out, HB1.out⟩

/-! weak.Same -/
set_option maxRecDepth 100000 in
set_option maxHeartbeats 4000000 in
/-- Where Classes fails, Same hands its error on. -/
theorem sameFault_any {Q : World → Value → Prop} (hQv : ∀ {w v}, Q w v → ∃ fb, v = .iface 73 (.pointer (some ⟨fb, 0, none⟩))) (w : World) {st lb s0 : Int} {a : Option Addr} {n c : Nat} (i j : Int)
    (hC : ∀ V, Below w.heap.size w V → Calls Tryz.prog 13 #[.agg #[.int .i64 st, .int .i64 lb, .int .i64 s0, .slice a n c]] V fun e w' => ∃ v, e = .returned (.tuple #[.slice none 0 0, v]) ∧ Q w' v ∧ Below V.heap.size V w') :
    Calls Tryz.prog 18 #[.agg #[.int .i64 st, .int .i64 lb, .int .i64 s0, .slice a n c], .int .i64 i, .int .i64 j] w fun e w' => ∃ v, e = .returned (.tuple #[.bool false, v]) ∧ Q w' v ∧ Below w.heap.size w w' := by
  have hB0 := (Below.refl w.heap.size w).alloc (Nat.le_refl _) (Obj.cells #[.int .i64 st, .int .i64 lb, .int .i64 s0, .slice a n c] 24)
  have HC := Lib.hid (hC _ hB0); have HB0 := Lib.hid hB0
  have HQV : RowKit.Hid (∀ w v, Q w v → ∃ fb, v = .iface 73 (.pointer (some ⟨fb, 0, none⟩))) := Lib.hid (fun w v h => hQv h)
  clear hC hB0 hQv
  go_enter Tryz.func18, Tryz.ntmps18
  go_wp2_with fail
  refine HC.out.mono ?_
  rintro e w1 ⟨v, rfl, hF, hB1⟩
  obtain ⟨fb, rfl⟩ := HQV.out _ _ hF
  have HF := Lib.hid hF; have HB1 := Lib.hid (HB0.out.trans (hB1.mono (by simp)))
  clear hF hB1 HC HB0 HQV
  go_wp2_with fail
  go_ret2
  exact ⟨_, rfl, HF.out, HB1.out⟩
end Go.Proofs.YtdhloijdefnkpaaGreatDoor

namespace Go.Proofs.YtdhloijdefnkpaaGreatDoor
open Go.RowKit Pl

set_option maxRecDepth 100000 in
set_option maxHeartbeats 4000000 in
theorem sameOut_any {p p3 : Addr} {s : Lts} {n lb : Nat} (hr : s.Right) (hn : s.st = (n : Int)) (hlb : s.lb = (lb : Int)) (h300 : n ≤ 300) {a : Option Addr} {b off c : Nat} {w : World} (hG : WkErr p w) (hI : GErr 2 p3 w) (hT : Tab w) (hS : SlAt encE 3 w a b off s.es) (i j : Int) (hij : i < 0 ∨ (n : Int) ≤ i ∨ j < 0 ∨ (n : Int) ≤ j) :
    Calls Tryz.prog 18 #[.agg #[.int .i64 s.st, .int .i64 s.lb, .int .i64 s.s0, .slice a s.es.length c], .int .i64 i, .int .i64 j] w fun e w' => ∃ v, e = .returned (.tuple #[.bool false, v]) ∧ FaultV w' p3 v ∧ Below w.heap.size w w' := by
  have hB0 := (Below.refl w.heap.size w).alloc (Nat.le_refl _) (Obj.cells #[.int .i64 s.st, .int .i64 s.lb, .int .i64 s.s0, .slice a s.es.length c] 24)
  have hbx := heap_alloc_new w (Obj.cells #[.int .i64 s.st, .int .i64 s.lb, .int .i64 s.s0, .slice a s.es.length c] 24)
  have HC := Lib.hid (weakClasses_any (c := c) hr hn hlb h300 (hG.below hB0) (hT.below hB0) (hS.below hB0 (Nat.le_refl _)))
  obtain ⟨el, hel⟩ : ∃ el, el = s.es.length := ⟨_, rfl⟩
  rw [hn, ← hel] at HC hB0 hbx ⊢
  have HI := Lib.hid hI; have HB0 := Lib.hid hB0; have HBX := Lib.hid hbx
  have hfn := faultNew_any weakName 285 (.pointer (some p3))
  unfold weakName at hfn
  clear hG hS hB0 hbx hr hn hel hT hI hlb
  go_enter Tryz.func18, Tryz.ntmps18
  go_wp2_with fail
  refine HC.out.mono ?_
  rintro e w1 ⟨cb, C, rfl, hc, _, _, hB1⟩
  have hb1 := HB0.out.trans (hB1.mono (by simp))
  obtain ⟨x0, x1, x2, x3, x4⟩ := sysC ((hB1.block w.heap.size (by simp)).trans HBX.out)
  have hi1 := HI.out.below hb1
  have g0 := hi1.cell; have gl := hi1.lt
  have HB1 := Lib.hid hb1
  have fin : Calls Tryz.prog 33 #[.string ⟨#[119, 101, 97, 107]⟩, .iface 285 (.pointer (some p3))] w1 fun e w' => ∃ fb, e = .returned (.iface 73 (.pointer (some ⟨fb, 0, none⟩))) ∧ FaultV w' p3 (.iface 73 (.pointer (some ⟨fb, 0, none⟩))) ∧ Below w.heap.size w w' := by
    refine (hfn w1).mono ?_
    rintro e w3 ⟨rfl, rfl⟩
    exact ⟨_, rfl, ⟨_, rfl, heap_alloc_new w1 _⟩, HB1.out.alloc HB1.out.size _⟩
  have FIN := Lib.hid fin
  clear hB1 hb1 hc hi1 HC HB0 HBX hfn fin
  by_cases c1 : i < 0
  · have d1 : decide (i < 0) = true := by simp [c1]
    go_wp2_with fail
    refine FIN.out.mono ?_
    rintro e w3 ⟨fb, rfl, hF, hB⟩
    have HF := Lib.hid hF; have HB := Lib.hid hB
    clear hF hB
    go_wp2_with fail
    go_ret2
    exact ⟨_, rfl, HF.out, HB.out⟩
  have d1 : decide (i < 0) = false := by simp [c1]
  by_cases c2 : (n : Int) ≤ i
  · have d2 : decide ((n : Int) ≤ i) = true := by simp [c2]
    go_wp2_with fail
    refine FIN.out.mono ?_
    rintro e w3 ⟨fb, rfl, hF, hB⟩
    have HF := Lib.hid hF; have HB := Lib.hid hB
    clear hF hB
    go_wp2_with fail
    go_ret2
    exact ⟨_, rfl, HF.out, HB.out⟩
  have d2 : decide ((n : Int) ≤ i) = false := by simp [c2]
  by_cases c3 : j < 0
  · have d3 : decide (j < 0) = true := by simp [c3]
    go_wp2_with fail
    refine FIN.out.mono ?_
    rintro e w3 ⟨fb, rfl, hF, hB⟩
    have HF := Lib.hid hF; have HB := Lib.hid hB
    clear hF hB
    go_wp2_with fail
    go_ret2
    exact ⟨_, rfl, HF.out, HB.out⟩
  have d3 : decide (j < 0) = false := by simp [c3]
  have c4 : (n : Int) ≤ j := by omega
  have d4 : decide ((n : Int) ≤ j) = true := by simp [c4]
  go_wp2_with fail
  refine FIN.out.mono ?_
  rintro e w3 ⟨fb, rfl, hF, hB⟩
  have HF := Lib.hid hF; have HB := Lib.hid hB
  clear hF hB
  go_wp2_with fail
  go_ret2
  exact ⟨_, rfl, HF.out, HB.out⟩

set_option maxRecDepth 100000 in
set_option maxHeartbeats 4000000 in
theorem sameIn_any {p : Addr} {s : Lts} {n lb : Nat} (hr : s.Right) (hn : s.st = (n : Int)) (hlb : s.lb = (lb : Int)) (h300 : n ≤ 300) {a : Option Addr} {b off c : Nat} {w : World} (hG : WkErr p w) (hT : Tab w) (hS : SlAt encE 3 w a b off s.es) {i j : Nat} (hi : i < n) (hj : j < n) :
    Calls Tryz.prog 18 #[.agg #[.int .i64 s.st, .int .i64 s.lb, .int .i64 s.s0, .slice a s.es.length c], .int .i64 (i : Int), .int .i64 (j : Int)] w fun e w' => ∃ C : Nat → Int, e = .returned (.tuple #[.bool (C i == C j), .nilIface]) ∧ WkRes s n lb C ∧ Below w.heap.size w w' := by
  have hB0 := (Below.refl w.heap.size w).alloc (Nat.le_refl _) (Obj.cells #[.int .i64 s.st, .int .i64 s.lb, .int .i64 s.s0, .slice a s.es.length c] 24)
  have hbx := heap_alloc_new w (Obj.cells #[.int .i64 s.st, .int .i64 s.lb, .int .i64 s.s0, .slice a s.es.length c] 24)
  have HC := Lib.hid (weakClasses_any (c := c) hr hn hlb h300 (hG.below hB0) (hT.below hB0) (hS.below hB0 (Nat.le_refl _)))
  obtain ⟨el, hel⟩ : ∃ el, el = s.es.length := ⟨_, rfl⟩
  rw [hn, ← hel] at HC hB0 hbx ⊢
  have HB0 := Lib.hid hB0; have HBX := Lib.hid hbx
  clear hG hS hB0 hbx hr hn hel hT hlb
  go_enter Tryz.func18, Tryz.ntmps18
  go_wp2_with fail
  refine HC.out.mono ?_
  rintro e w1 ⟨cb, C, rfl, hc, hres, _, hB1⟩
  have hb1 := HB0.out.trans (hB1.mono (by simp))
  obtain ⟨x0, x1, x2, x3, x4⟩ := sysC ((hB1.block w.heap.size (by simp)).trans HBX.out)
  have HB1 := Lib.hid hb1; have HRS := Lib.hid hres
  have e1 := hc.ci (fl_get C hi)
  rw [Nat.zero_add] at e1
  have e2 := hc.ci (fl_get C hj)
  rw [Nat.zero_add] at e2
  clear hB1 hb1 hres HC HB0 HBX
  have d1 : decide ((i : Int) < 0) = false := by simp
  have d2 : decide ((n : Int) ≤ (i : Int)) = false := by simp; omega
  have d3 : decide ((j : Int) < 0) = false := by simp
  have d4 : decide ((n : Int) ≤ (j : Int)) = false := by simp; omega
  have f1 : (i : Int) < (n : Int) := by omega
  have f2 : (j : Int) < (n : Int) := by omega
  have l1 := World.block_lt_of_cell? _ _ e1
  clear hc
  go_wp2_with fail
  go_quiet (fail)
  go_wp2_with fail
  go_ret2
  exact ⟨C, rfl, HRS.out, bdrew HB1.out⟩
end Go.Proofs.YtdhloijdefnkpaaGreatDoor

namespace Go.Proofs.YtdhloijdefnkpaaGreatDoor
open Go.RowKit Pl

open Classical in
theorem kOk_exC (s : Lts) (n lb : Nat) : ∃ K, KOk s n lb K := ⟨fun p l q => decide (wst s p (l : Int) q), fun p l q _ _ _ => by simp⟩

set_option maxRecDepth 100000 in
set_option maxHeartbeats 16000000 in
theorem wkClasses_any {w : World} {p p0 p2 p3 pe : Addr} (hG : WkErr p w) (hE0 : ErrsK 14 p0 w) (hE2 : ErrsK 2 p2 w) (hE3 : ErrsK 3 p3 w) (hGE : GErr 0 pe w) (hT : ErrType w) (hTab : Tab w) {s : Lts} {a : Option Addr} {b off c : Nat} (hS : SlAt encE 3 w a b off s.es) (hc : s.es.length ≤ c) (hcm : c ≤ maxLen) (zi zj : Int) :
    Calls Tryz.prog 5 #[.agg #[.int .i64 s.st, .int .i64 s.lb, .int .i64 s.s0, .slice a s.es.length c], .int .i64 zi, .int .i64 zj] w fun e w' => e = .returned (.bool true) ∧ Below w.heap.size w w' := by
  obtain rfl : p = p0 := by
    have h1 := hG.sys.cell
    have h2 := hE0.sys.cell
    rw [show gE 14 = 1 from rfl, h1] at h2
    simpa using h2
  obtain ⟨W, hW⟩ : ∃ W, W = w.alloc (Obj.cells #[.int .i64 s.st, .int .i64 s.lb, .int .i64 s.s0, .slice a s.es.length c] 24) := ⟨_, rfl⟩
  have hB0 : Below w.heap.size w W := by rw [hW]; exact (Below.refl w.heap.size w).alloc (Nat.le_refl _) _
  have hbx := heap_alloc_new w (Obj.cells #[.int .i64 s.st, .int .i64 s.lb, .int .i64 s.s0, .slice a s.es.length c] 24)
  rw [← hW] at hbx
  have HG := Lib.hid hG; have HE0 := Lib.hid hE0; have HE2 := Lib.hid hE2; have HE3 := Lib.hid hE3; have HTY := Lib.hid hT; have HTB := Lib.hid hTab; have HS := Lib.hid hS
  have ALV : RowKit.Hid (∀ w1 : World, Below w.heap.size w w1 → Calls Tryz.prog 10 #[] w1 fun e w' => e = .returned (.bool true) ∧ Below w.heap.size w w' ∧ Below w1.heap.size w1 w') := Lib.hid (by
    intro w1 h1
    refine (alive13_any (hG.below h1) (hGE.below h1) (hTab.below h1)).mono ?_
    rintro e w' ⟨rfl, hB⟩
    exact ⟨rfl, h1.trans (hB.mono h1.size), hB⟩)
  have HLI := Lib.hid (light_any (c := c) (hS.below hB0 (Nat.le_refl _)))
  clear hG hE0 hE2 hE3 hGE hT hTab hS
  obtain ⟨el, hel⟩ : ∃ el, el = s.es.length := ⟨_, rfl⟩
  rw [← hel] at HLI hW hbx ⊢
  have HEL := Lib.hid hel; have HB0 := Lib.hid hB0; have HBX := Lib.hid hbx; have HW := Lib.hid hW
  obtain ⟨x0, x1, x2, x3, x4⟩ := sysC hbx
  clear hB0 hbx hW hel
  go_enter Tryz.func5, Tryz.ntmps5
  go_wp2_with fail
  rw [← HW.out]
  go_wp2_with fail
  refine HLI.out.mono ?_
  rintro e w1 ⟨bv, rfl, hbv, hB1⟩
  have hx1 := (hB1.block w.heap.size x4).trans HBX.out
  have hb1 := HB0.out.trans (hB1.mono HB0.out.size)
  clear x0 x1 x2 x3 x4
  obtain ⟨x0, x1, x2, x3, x4⟩ := sysC hx1
  have HX1 := Lib.hid hx1; have HB1 := Lib.hid hb1; have HBV := Lib.hid hbv
  clear hx1 hb1 hB1 hbv HLI HB0 HBX HW
  cases bv
  · go_wp2_with fail
    refine (ALV.out _ HB1.out).mono ?_
    rintro e w2 ⟨rfl, hB, _⟩
    go_wp2
    go_ret
    exact ⟨rfl, hB⟩
  have hlt := HBV.out rfl
  clear HBV
  by_cases hq : ¬ s.Right ∨ 300 < s.st
  · have HX : ∃ (k : Int) (x : ByteArray) (Q : World → Value → Prop), k ≠ 0 ∧ (∀ w w' v, Q w v → Below w.heap.size w w' → Q w' v) ∧ (∀ w v, Q w v → ∃ fb, v = .iface 73 (.pointer (some ⟨fb, 0, none⟩))) ∧
        (∀ V, Below w.heap.size w V → Calls Tryz.prog 17 #[.agg #[.int .i64 s.st, .int .i64 s.lb, .int .i64 s.s0, .slice a s.es.length c]] V fun e w' => e = .returned (.agg #[.int .i64 k, .int .i64 0, .int .i64 0, .string x]) ∧ Below V.heap.size V w') ∧
        (∀ V, Below w.heap.size w V → Calls Tryz.prog 13 #[.agg #[.int .i64 s.st, .int .i64 s.lb, .int .i64 s.s0, .slice a s.es.length c]] V fun e w' => ∃ v, e = .returned (.tuple #[.slice none 0 0, v]) ∧ Q w' v ∧ Below V.heap.size V w') ∧
        (∀ V v, Below w.heap.size w V → Q V v → Calls Tryz.prog 14 #[v, .agg #[.int .i64 k, .int .i64 0, .int .i64 0, .string x]] V fun e w' => e = .returned (.bool true) ∧ Below V.heap.size V w') := by
      by_cases hr : s.Right
      · have h3 : 300 < s.st := hq.resolve_left (fun h => h hr)
        refine ⟨2, weakName ++ ⟨#[32]⟩, fun w v => FaultV w p2 v, by decide, fun w w' v h hB => FaultAt.below h hB, fun w v h => ?_, fun V hV => ?_, fun V hV => ?_, fun V v hV h => ?_⟩
        · obtain ⟨fb, e, _⟩ := h.ex; exact ⟨fb, e⟩
        · have h := refGuard_yes (c := c) hr (HS.out.below hV (Nat.le_refl _))
          rw [if_pos h3] at h
          exact h
        · exact weakClassesBig_any hr h3 (HG.out.below hV) (HE2.out.sys.below hV) (HS.out.below hV (Nat.le_refl _))
        · exact told_one (k := 2) (by unfold CodeIn; omega) (HE2.out.below hV) h (by decide)
      · refine ⟨14, weakName ++ ⟨#[32]⟩ ++ sysName ++ ⟨#[32]⟩, fun w v => FaultW w p v, by decide, fun w w' v h hB => h.below hB, fun w v h => ?_, fun V hV => ?_, fun V hV => ?_, fun V v hV h => ?_⟩
        · obtain ⟨vi, h1, _⟩ := h; obtain ⟨fb, e, _⟩ := h1.ex; exact ⟨fb, e⟩
        · exact refGuard_no hr (HS.out.below hV (Nat.le_refl _))
        · exact weakClassesNo_any hr (HG.out.below hV) (HTY.out.below hV) (HS.out.below hV (Nat.le_refl _))
        · obtain ⟨vi, h1, h2⟩ := h
          exact told_two (k := 14) (by unfold CodeIn; omega) (HE0.out.below hV) h1 h2 (by decide) (by decide)
    obtain ⟨k, x, Q, hk, hQb, hQv, hGU, hCL, hTO⟩ := HX
    have hSA : ∀ V, Below w.heap.size w V → Calls Tryz.prog 18 #[.agg #[.int .i64 s.st, .int .i64 s.lb, .int .i64 s.s0, .slice a s.es.length c], .int .i64 zi, .int .i64 zj] V fun e w' => ∃ v, e = .returned (.tuple #[.bool false, v]) ∧ Q w' v ∧ Below V.heap.size V w' := fun V hV =>
      sameFault_any (Q := Q) (fun {w v} h => hQv w v h) V zi zj (fun U hU => hCL U (hV.trans (hU.mono hV.size)))
    rw [← HEL.out] at hGU hCL hSA
    have hkB : (k != 0) = true := by simp [hk]
    have HQB := Lib.hid hQb; have HQV := Lib.hid hQv; have HGU := Lib.hid hGU; have HCL := Lib.hid hCL; have HSA := Lib.hid hSA; have HTO := Lib.hid hTO
    clear hQb hQv hGU hCL hSA hTO hq hlt hk HG HE0 HE2 HE3 HTY HTB HS
    go_wp2_with fail
    refine (HGU.out _ HB1.out).mono ?_
    rintro e w2 ⟨rfl, hB2⟩
    have hx2 := (hB2.block w.heap.size x4).trans HX1.out
    have hb2 := HB1.out.trans (hB2.mono HB1.out.size)
    obtain ⟨W2, hW2⟩ : ∃ W2, W2 = w2.alloc (Obj.cells #[.int .i64 k, .int .i64 0, .int .i64 0, .string x] 43) := ⟨_, rfl⟩
    have hbW : Below w2.heap.size w2 W2 := by rw [hW2]; exact (Below.refl _ _).alloc (Nat.le_refl _) _
    have heW := heap_alloc_new w2 (Obj.cells #[.int .i64 k, .int .i64 0, .int .i64 0, .string x] 43)
    rw [← hW2] at heW
    have hxW := (hbW.block w.heap.size (Array.getElem?_eq_some_iff.1 hx2).1).trans hx2
    have HW2 := Lib.hid hW2; have HX2 := Lib.hid hxW; have HB2 := Lib.hid (hb2.trans (hbW.mono hb2.size))
    obtain ⟨eb, heb⟩ : ∃ eb, eb = w2.heap.size := ⟨_, rfl⟩
    rw [← heb] at heW
    have HEB := Lib.hid heb; have HEW := Lib.hid heW
    obtain ⟨y0, y1, y2, y3, y4⟩ := sysC hx2
    clear hx2 hb2 hB2 hW2 hbW hxW heb heW HGU HX1 HB1 x0 x1 x2 x3 x4
    go_wp2_with fail
    rw [← HW2.out, ← HEB.out]
    clear y0 y1 y2 y3 y4
    obtain ⟨y0, y1, y2, y3, y4⟩ := sysC HX2.out
    clear HW2 HEB
    refine (HCL.out _ HB2.out).mono ?_
    rintro e w3 ⟨v, rfl, hQ3, hB3⟩
    obtain ⟨fb, rfl⟩ := HQV.out _ _ hQ3
    have HX3 := Lib.hid ((hB3.block w.heap.size y4).trans HX2.out)
    have HEW3 := Lib.hid ((hB3.block eb (Array.getElem?_eq_some_iff.1 HEW.out).1).trans HEW.out)
    have HB3 := Lib.hid (HB2.out.trans (hB3.mono HB2.out.size)); have HQ3 := Lib.hid hQ3
    clear y0 y1 y2 y3 y4
    obtain ⟨y0, y1, y2, y3, y4⟩ := sysC HX3.out
    clear hB3 hQ3 HX2 HB2 HEW HCL
    go_wp2_with fail
    refine (HSA.out _ HB3.out).mono ?_
    rintro e w4 ⟨v, rfl, hQ4, hB4⟩
    obtain ⟨fb2, rfl⟩ := HQV.out _ _ hQ4
    have HEW4 := Lib.hid ((hB4.block eb (Array.getElem?_eq_some_iff.1 HEW3.out).1).trans HEW3.out)
    have HB4 := Lib.hid (HB3.out.trans (hB4.mono HB3.out.size)); have HQ4 := Lib.hid hQ4
    have HQ34 := Lib.hid (HQB.out _ _ _ HQ3.out hB4)
    obtain ⟨⟨z0, z1, z2, z3⟩, _, zl⟩ := errC HEW4.out
    clear y0 y1 y2 y3 y4 hB4 hQ4 HX3 HB3 HEW3 HSA HQ3
    go_wp2_with fail
    refine (HTO.out _ _ HB4.out HQ34.out).mono ?_
    rintro e w5 ⟨rfl, hB5⟩
    have HEW5 := Lib.hid ((hB5.block eb zl).trans HEW4.out)
    have HB5 := Lib.hid (HB4.out.trans (hB5.mono HB4.out.size)); have HQ5 := Lib.hid (HQB.out _ _ _ HQ4.out hB5)
    clear z0 z1 z2 z3 zl
    obtain ⟨⟨z0, z1, z2, z3⟩, _, zl⟩ := errC HEW5.out
    clear hB5 HEW4 HB4 HQ4 HQ34
    go_wp2_with fail
    refine (ALV.out _ HB5.out).mono ?_
    rintro e w6 ⟨rfl, hBa, hB6⟩
    have HEW6 := Lib.hid ((hB6.block eb zl).trans HEW5.out)
    have HB6 := Lib.hid hBa; have HQ6 := Lib.hid (HQB.out _ _ _ HQ5.out hB6)
    clear z0 z1 z2 z3 zl
    obtain ⟨⟨z0, z1, z2, z3⟩, _, zl⟩ := errC HEW6.out
    clear hB6 hBa HEW5 HB5 HQ5
    go_wp2_with fail
    refine (HTO.out _ _ HB6.out HQ6.out).mono ?_
    rintro e w7 ⟨rfl, hB7⟩
    have HB7 := Lib.hid (HB6.out.trans (hB7.mono HB6.out.size))
    clear hB7
    go_wp2_with fail
    go_ret
    exact ⟨rfl, HB7.out⟩
  have hr : s.Right := Classical.byContradiction fun h => hq (.inl h)
  have h3 : ¬ 300 < s.st := fun h => hq (.inr h)
  have h40 : s.st ≤ 40 := by rcases hlt with h | h | h; exact h; exact absurd hr h; omega
  clear hq hlt
  have hst := hr.st0
  obtain ⟨n, hn⟩ : ∃ n : Nat, s.st = (n : Int) := ⟨s.st.toNat, by omega⟩
  obtain ⟨lb, hlb⟩ : ∃ lb : Nat, s.lb = (lb : Int) := ⟨s.lb.toNat, by omega⟩
  have hn40 : n ≤ 40 := by omega
  have hGU : ∀ V, Below w.heap.size w V → Calls Tryz.prog 17 #[.agg #[.int .i64 s.st, .int .i64 s.lb, .int .i64 s.s0, .slice a s.es.length c]] V fun e w' => e = .returned (.agg #[.int .i64 0, .int .i64 0, .int .i64 0, .string ⟨#[]⟩]) ∧ Below V.heap.size V w' := fun V hV => by
    have h := refGuard_yes (c := c) hr (HS.out.below hV (Nat.le_refl _))
    rw [if_neg h3] at h
    exact h
  have hCL : ∀ V, Below w.heap.size w V → _ := fun V (hV : Below w.heap.size w V) => weakClasses_any (c := c) hr hn hlb (by omega) (HG.out.below hV) (HTB.out.below hV) (HS.out.below hV (Nat.le_refl _))
  have hRC : ∀ V, Below w.heap.size w V → _ := fun V (hV : Below w.heap.size w V) => refClasses_any (c := c) hr hn hlb hn40 (HS.out.below hV (Nat.le_refl _)) hc hcm
  have hSO : (zi < 0 ∨ (n : Int) ≤ zi ∨ zj < 0 ∨ (n : Int) ≤ zj) → ∀ V, Below w.heap.size w V → _ := fun h V (hV : Below w.heap.size w V) => sameOut_any (c := c) hr hn hlb (by omega) (HG.out.below hV) (HE3.out.sys.below hV) (HTB.out.below hV) (HS.out.below hV (Nat.le_refl _)) zi zj h
  have hSI : ∀ i j : Nat, i < n → j < n → ∀ V, Below w.heap.size w V → _ := fun i j hi hj V (hV : Below w.heap.size w V) => sameIn_any (c := c) hr hn hlb (by omega) (HG.out.below hV) (HTB.out.below hV) (HS.out.below hV (Nat.le_refl _)) hi hj
  have hTO : ∀ V v, Below w.heap.size w V → FaultV V p3 v → Calls Tryz.prog 14 #[v, .agg #[.int .i64 3, .int .i64 0, .int .i64 0, .string (weakName ++ ⟨#[32]⟩)]] V fun e w' => e = .returned (.bool true) ∧ Below V.heap.size V w' := fun V v hV h =>
    told_one (k := 3) (by unfold CodeIn; omega) (HE3.out.below hV) h (by decide)
  obtain ⟨K, hK⟩ : ∃ K, KOk s n lb K := kOk_exC s n lb
  have hEQ : ∀ C D : Nat → Int, WkRes s n lb C → WkRes s n lb D → fl n C = fl n D := fun C D h1 h2 => wkRes_eq (h1.big K hK) h1.can (h2.big K hK) h2.can
  have hbd := bad_any weakName (by decide) 3
  rw [← HEL.out] at hGU hCL hRC hSO hSI
  obtain ⟨wn, hwn⟩ : ∃ wn, wn = weakName ++ ⟨#[32]⟩ := ⟨_, rfl⟩
  rw [← hwn] at hTO hbd
  unfold weakName at hbd
  rw [hn] at hGU hCL hRC hSO hSI HX1 x0 ⊢
  have HGU := Lib.hid hGU; have HCL := Lib.hid hCL; have HRC := Lib.hid hRC; have HSO := Lib.hid hSO; have HSI := Lib.hid hSI; have HTO := Lib.hid hTO; have HEQ := Lib.hid hEQ
  clear hGU hCL hRC hSO hSI hTO hEQ hr h3 h40 hst hlb hc hcm hK K hwn HG HE0 HE2 HE3 HTY HTB HS HEL
  go_wp2_with fail
  refine (HGU.out _ HB1.out).mono ?_
  rintro e w2 ⟨rfl, hB2⟩
  have hx2 := (hB2.block w.heap.size x4).trans HX1.out
  have hb2 := HB1.out.trans (hB2.mono HB1.out.size)
  obtain ⟨W2, hW2⟩ : ∃ W2, W2 = w2.alloc (Obj.cells #[.int .i64 0, .int .i64 0, .int .i64 0, .string ⟨#[]⟩] 43) := ⟨_, rfl⟩
  have hbW : Below w2.heap.size w2 W2 := by rw [hW2]; exact (Below.refl _ _).alloc (Nat.le_refl _) _
  have heW := heap_alloc_new w2 (Obj.cells #[.int .i64 0, .int .i64 0, .int .i64 0, .string ⟨#[]⟩] 43)
  rw [← hW2] at heW
  have hxW := (hbW.block w.heap.size (Array.getElem?_eq_some_iff.1 hx2).1).trans hx2
  have HW2 := Lib.hid hW2; have HX2 := Lib.hid hxW; have HB2 := Lib.hid (hb2.trans (hbW.mono hb2.size))
  obtain ⟨eb, heb⟩ : ∃ eb, eb = w2.heap.size := ⟨_, rfl⟩
  rw [← heb] at heW
  have HEB := Lib.hid heb; have HEW := Lib.hid heW
  clear x0 x1 x2 x3 x4
  obtain ⟨y0, y1, y2, y3, y4⟩ := sysC hx2
  clear hx2 hb2 hB2 hW2 hbW hxW heb heW HGU HX1 HB1
  go_wp2_with fail
  rw [← HW2.out, ← HEB.out]
  clear y0 y1 y2 y3 y4
  obtain ⟨y0, y1, y2, y3, y4⟩ := sysC HX2.out
  clear HW2 HEB
  refine (HCL.out _ HB2.out).mono ?_
  rintro e w3 ⟨cb, C, rfl, hsc, hrc, _, hB3⟩
  have HX3 := Lib.hid ((hB3.block w.heap.size y4).trans HX2.out)
  have HEW3 := Lib.hid ((hB3.block eb (Array.getElem?_eq_some_iff.1 HEW.out).1).trans HEW.out)
  have HB3 := Lib.hid (HB2.out.trans (hB3.mono HB2.out.size)); have HSC := Lib.hid hsc; have HRS := Lib.hid hrc
  clear y0 y1 y2 y3 y4
  obtain ⟨y0, y1, y2, y3, y4⟩ := sysC HX3.out
  clear hB3 hsc hrc HX2 HB2 HEW HCL
  have SAMEV : RowKit.Hid ((∀ D : Nat → Int, WkRes s n lb D → fl n C = fl n D) ∧ ∀ D : Nat → Int, WkRes s n lb D → ∀ E : Nat → Int, WkRes s n lb E → ∀ q, q < n → E q = D q) := Lib.hid ⟨fun D h => HEQ.out C D HRS.out h, fun D h E h2 q hq => fl_inj (HEQ.out E D h2 h) hq⟩
  clear HEQ HRS
  by_cases hout : zi < 0 ∨ (n : Int) ≤ zi ∨ zj < 0 ∨ (n : Int) ≤ zj
  · go_wp2_with fail
    refine (HSO.out hout _ HB3.out).mono ?_
    rintro e w4 ⟨v, rfl, hF4, hB4⟩
    obtain ⟨fb2, rfl, _⟩ := id hF4.ex
    have HF4 : RowKit.Hid (FaultV w4 p3 (.iface 73 (.pointer (some ⟨fb2, 0, none⟩)))) := Lib.hid hF4
    clear hF4
    have HEW4 := Lib.hid ((hB4.block eb (Array.getElem?_eq_some_iff.1 HEW3.out).1).trans HEW3.out)
    have HX4 := Lib.hid ((hB4.block w.heap.size y4).trans HX3.out)
    have HSC4 := Lib.hid (HSC.out.below hB4 (Nat.le_refl _))
    have HB4 := Lib.hid (HB3.out.trans (hB4.mono HB3.out.size))
    obtain ⟨⟨z0, z1, z2, z3⟩, _, zl⟩ := errC HEW4.out
    clear y0 y1 y2 y3 y4 hB4 HX3 HB3 HEW3 HSC
    go_wp2_with fail
    refine (told_nil 0 0 ⟨#[]⟩ w4).mono ?_
    rintro e w5 ⟨rfl, hB5⟩
    have HEW5 := Lib.hid ((hB5.block eb zl).trans HEW4.out)
    have HX5 := Lib.hid ((hB5.block w.heap.size (Array.getElem?_eq_some_iff.1 HX4.out).1).trans HX4.out)
    have HSC5 := Lib.hid (HSC4.out.below hB5 (Nat.le_refl _))
    have HB5 := Lib.hid (HB4.out.trans (hB5.mono HB4.out.size)); have HF5 : RowKit.Hid (FaultV w5 p3 (.iface 73 (.pointer (some ⟨fb2, 0, none⟩)))) := Lib.hid (FaultAt.below HF4.out hB5)
    clear z0 z1 z2 z3 zl
    obtain ⟨⟨z0, z1, z2, z3⟩, _, zl⟩ := errC HEW5.out
    obtain ⟨y0, y1, y2, y3, y4⟩ := sysC HX5.out
    clear hB5 HEW4 HX4 HSC4 HB4 HF4
    go_wp2_with fail
    refine (HRC.out _ HB5.out).mono ?_
    rintro e w6 ⟨db, D, rfl, hsd, hrd, _, hB6⟩
    have HX6 := Lib.hid ((hB6.block w.heap.size y4).trans HX5.out)
    have HSC6 := Lib.hid (HSC5.out.below hB6 (Nat.le_refl _))
    have HB6 := Lib.hid (HB5.out.trans (hB6.mono HB5.out.size)); have HF6 : RowKit.Hid (FaultV w6 p3 (.iface 73 (.pointer (some ⟨fb2, 0, none⟩)))) := Lib.hid (FaultAt.below HF5.out hB6)
    have heq := sameInts_any (c1 := n) (c2 := n) HSC6.out hsd (by rw [fl_len]; omega) (by rw [fl_len]; omega)
    rw [fl_len, fl_len, show decide (fl n C = fl n D) = true by simp [SAMEV.out.1 D hrd]] at heq
    have HSI := Lib.hid heq; have HSD := Lib.hid hsd; have HRD := Lib.hid hrd
    clear z0 z1 z2 z3 zl y0 y1 y2 y3 y4
    obtain ⟨y0, y1, y2, y3, y4⟩ := sysC HX6.out
    clear hB6 heq hsd hrd HEW5 HX5 HSC5 HB5 HRC HF5
    go_wp2_with fail
    refine HSI.out.mono ?_
    rintro e w7 ⟨rfl, q7, rfl⟩
    have HX7 : RowKit.Hid ((w6.drewN q7).heap[w.heap.size]? = some (.cells #[.int .i64 (n : Int), .int .i64 s.lb, .int .i64 s.s0, .slice a el c] 24 (0, 0))) := Lib.hid HX6.out
    have HSD7 := Lib.hid (HSD.out.below (w' := w6.drewN q7) (bdrew (Below.refl _ _)) (Nat.le_refl _))
    have HB7 : RowKit.Hid (Below w.heap.size w (w6.drewN q7)) := Lib.hid (bdrew HB6.out); have HF7 : RowKit.Hid (FaultV (w6.drewN q7) p3 (.iface 73 (.pointer (some ⟨fb2, 0, none⟩)))) := Lib.hid (FaultAt.below HF6.out (bdrew (Below.refl _ _)))
    obtain ⟨w7, hw7⟩ : ∃ w7, w7 = w6.drewN q7 := ⟨_, rfl⟩
    rw [← hw7] at HX7 HSD7 HB7 HF7 ⊢
    clear y0 y1 y2 y3 y4
    obtain ⟨y0, y1, y2, y3, y4⟩ := sysC HX7.out
    clear hw7 HX6 HSD HB6 HSI HSC6 HF6 HRD HSD7 SAMEV
    by_cases c1 : zi < 0
    · have d1 : decide (zi < 0) = true := by simp [c1]
      go_wp2_with fail
      refine (ALV.out _ HB7.out).mono ?_
      rintro e w8 ⟨rfl, hBa, hB8⟩
      have HB8 := Lib.hid hBa; have HF8 := Lib.hid (FaultAt.below HF7.out hB8)
      clear hBa hB8 HB7 HF7 y0 y1 y2 y3 y4 HX7
      go_wp2_with fail
      refine (hbd _).mono ?_
      rintro e w9 ⟨rfl, hB9⟩
      have HB9 := Lib.hid (HB8.out.trans (hB9.mono HB8.out.size)); have HF9 : RowKit.Hid (FaultV w9 p3 _) := Lib.hid (FaultAt.below HF8.out hB9)
      clear hB9 HB8 HF8
      go_wp2_with fail
      refine (HTO.out _ _ HB9.out HF9.out).mono ?_
      rintro e w10 ⟨rfl, hB10⟩
      have HB10 := Lib.hid (HB9.out.trans (hB10.mono HB9.out.size))
      clear hB10
      go_wp2_with fail
      go_ret
      exact ⟨rfl, HB10.out⟩
    have d1 : decide (zi < 0) = false := by simp [c1]
    by_cases c2 : (n : Int) ≤ zi
    · have d2 : decide ((n : Int) ≤ zi) = true := by simp [c2]
      go_wp2_with fail
      refine (ALV.out _ HB7.out).mono ?_
      rintro e w8 ⟨rfl, hBa, hB8⟩
      have HB8 := Lib.hid hBa; have HF8 := Lib.hid (FaultAt.below HF7.out hB8)
      clear hBa hB8 HB7 HF7 y0 y1 y2 y3 y4 HX7
      go_wp2_with fail
      refine (hbd _).mono ?_
      rintro e w9 ⟨rfl, hB9⟩
      have HB9 := Lib.hid (HB8.out.trans (hB9.mono HB8.out.size)); have HF9 : RowKit.Hid (FaultV w9 p3 _) := Lib.hid (FaultAt.below HF8.out hB9)
      clear hB9 HB8 HF8
      go_wp2_with fail
      refine (HTO.out _ _ HB9.out HF9.out).mono ?_
      rintro e w10 ⟨rfl, hB10⟩
      have HB10 := Lib.hid (HB9.out.trans (hB10.mono HB9.out.size))
      clear hB10
      go_wp2_with fail
      go_ret
      exact ⟨rfl, HB10.out⟩
    have d2 : decide ((n : Int) ≤ zi) = false := by simp [c2]
    by_cases c3 : zj < 0
    · have d3 : decide (zj < 0) = true := by simp [c3]
      go_wp2_with fail
      refine (ALV.out _ HB7.out).mono ?_
      rintro e w8 ⟨rfl, hBa, hB8⟩
      have HB8 := Lib.hid hBa; have HF8 := Lib.hid (FaultAt.below HF7.out hB8)
      clear hBa hB8 HB7 HF7 y0 y1 y2 y3 y4 HX7
      go_wp2_with fail
      refine (hbd _).mono ?_
      rintro e w9 ⟨rfl, hB9⟩
      have HB9 := Lib.hid (HB8.out.trans (hB9.mono HB8.out.size)); have HF9 : RowKit.Hid (FaultV w9 p3 _) := Lib.hid (FaultAt.below HF8.out hB9)
      clear hB9 HB8 HF8
      go_wp2_with fail
      refine (HTO.out _ _ HB9.out HF9.out).mono ?_
      rintro e w10 ⟨rfl, hB10⟩
      have HB10 := Lib.hid (HB9.out.trans (hB10.mono HB9.out.size))
      clear hB10
      go_wp2_with fail
      go_ret
      exact ⟨rfl, HB10.out⟩
    have d3 : decide (zj < 0) = false := by simp [c3]
    have c4 : (n : Int) ≤ zj := by omega
    have d4 : decide ((n : Int) ≤ zj) = true := by simp [c4]
    go_wp2_with fail
    refine (ALV.out _ HB7.out).mono ?_
    rintro e w8 ⟨rfl, hBa, hB8⟩
    have HB8 := Lib.hid hBa; have HF8 := Lib.hid (FaultAt.below HF7.out hB8)
    clear hBa hB8 HB7 HF7 y0 y1 y2 y3 y4 HX7
    go_wp2_with fail
    refine (hbd _).mono ?_
    rintro e w9 ⟨rfl, hB9⟩
    have HB9 := Lib.hid (HB8.out.trans (hB9.mono HB8.out.size)); have HF9 : RowKit.Hid (FaultV w9 p3 _) := Lib.hid (FaultAt.below HF8.out hB9)
    clear hB9 HB8 HF8
    go_wp2_with fail
    refine (HTO.out _ _ HB9.out HF9.out).mono ?_
    rintro e w10 ⟨rfl, hB10⟩
    have HB10 := Lib.hid (HB9.out.trans (hB10.mono HB9.out.size))
    clear hB10
    go_wp2_with fail
    go_ret
    exact ⟨rfl, HB10.out⟩
  · obtain ⟨i, rfl⟩ := Int.eq_ofNat_of_zero_le (show 0 ≤ zi by omega)
    obtain ⟨j, rfl⟩ := Int.eq_ofNat_of_zero_le (show 0 ≤ zj by omega)
    have hi : i < n := by omega
    have hj : j < n := by omega
    go_wp2_with fail
    refine (HSI.out i j hi hj _ HB3.out).mono ?_
    rintro e w4 ⟨E, rfl, hre, hB4⟩
    have HRE := Lib.hid hre
    clear hre HSI
    have HEW4 := Lib.hid ((hB4.block eb (Array.getElem?_eq_some_iff.1 HEW3.out).1).trans HEW3.out)
    have HX4 := Lib.hid ((hB4.block w.heap.size y4).trans HX3.out)
    have HSC4 := Lib.hid (HSC.out.below hB4 (Nat.le_refl _))
    have HB4 := Lib.hid (HB3.out.trans (hB4.mono HB3.out.size))
    obtain ⟨⟨z0, z1, z2, z3⟩, _, zl⟩ := errC HEW4.out
    clear y0 y1 y2 y3 y4 hB4 HX3 HB3 HEW3 HSC
    go_wp2_with fail
    refine (told_nil 0 0 ⟨#[]⟩ w4).mono ?_
    rintro e w5 ⟨rfl, hB5⟩
    have HEW5 := Lib.hid ((hB5.block eb zl).trans HEW4.out)
    have HX5 := Lib.hid ((hB5.block w.heap.size (Array.getElem?_eq_some_iff.1 HX4.out).1).trans HX4.out)
    have HSC5 := Lib.hid (HSC4.out.below hB5 (Nat.le_refl _))
    have HB5 := Lib.hid (HB4.out.trans (hB5.mono HB4.out.size))
    clear z0 z1 z2 z3 zl
    obtain ⟨⟨z0, z1, z2, z3⟩, _, zl⟩ := errC HEW5.out
    obtain ⟨y0, y1, y2, y3, y4⟩ := sysC HX5.out
    clear hB5 HEW4 HX4 HSC4 HB4
    go_wp2_with fail
    refine (HRC.out _ HB5.out).mono ?_
    rintro e w6 ⟨db, D, rfl, hsd, hrd, _, hB6⟩
    have HX6 := Lib.hid ((hB6.block w.heap.size y4).trans HX5.out)
    have HSC6 := Lib.hid (HSC5.out.below hB6 (Nat.le_refl _))
    have HB6 := Lib.hid (HB5.out.trans (hB6.mono HB5.out.size))
    have heq := sameInts_any (c1 := n) (c2 := n) HSC6.out hsd (by rw [fl_len]; omega) (by rw [fl_len]; omega)
    rw [fl_len, fl_len, show decide (fl n C = fl n D) = true by simp [SAMEV.out.1 D hrd]] at heq
    have HSI := Lib.hid heq; have HSD := Lib.hid hsd; have HRD := Lib.hid hrd
    clear z0 z1 z2 z3 zl y0 y1 y2 y3 y4
    obtain ⟨y0, y1, y2, y3, y4⟩ := sysC HX6.out
    clear hB6 heq hsd hrd HEW5 HX5 HSC5 HB5 HRC
    go_wp2_with fail
    refine HSI.out.mono ?_
    rintro e w7 ⟨rfl, q7, rfl⟩
    have HX7 : RowKit.Hid ((w6.drewN q7).heap[w.heap.size]? = some (.cells #[.int .i64 (n : Int), .int .i64 s.lb, .int .i64 s.s0, .slice a el c] 24 (0, 0))) := Lib.hid HX6.out
    have HSD7 := Lib.hid (HSD.out.below (w' := w6.drewN q7) (bdrew (Below.refl _ _)) (Nat.le_refl _))
    have HB7 : RowKit.Hid (Below w.heap.size w (w6.drewN q7)) := Lib.hid (bdrew HB6.out)
    obtain ⟨w7, hw7⟩ : ∃ w7, w7 = w6.drewN q7 := ⟨_, rfl⟩
    rw [← hw7] at HX7 HSD7 HB7 ⊢
    clear y0 y1 y2 y3 y4
    obtain ⟨y0, y1, y2, y3, y4⟩ := sysC HX7.out
    clear hw7 HX6 HSD HB6 HSI HSC6
    have d1 : decide ((i : Int) < 0) = false := by simp
    have d2 : decide ((n : Int) ≤ (i : Int)) = false := by simp; omega
    have d3 : decide ((j : Int) < 0) = false := by simp
    have d4 : decide ((n : Int) ≤ (j : Int)) = false := by simp; omega
    have f1 : (i : Int) < (n : Int) := by omega
    have f2 : (j : Int) < (n : Int) := by omega
    rw [SAMEV.out.2 D HRD.out E HRE.out i hi, SAMEV.out.2 D HRD.out E HRE.out j hj]
    have hxx : ((D i == D j) == (D i == D j)) = true := by simp
    have KEEP : RowKit.Hid (∀ V, Below w7.heap.size w7 V → V.cell? ⟨db, i, none⟩ = some (.int .i64 (D i)) ∧ V.cell? ⟨db, j, none⟩ = some (.int .i64 (D j)) ∧ db < V.heap.size) := Lib.hid (fun V hV => by
      have h := HSD7.out.below hV (Nat.le_refl _)
      have e1 := h.ci (fl_get D hi)
      have e2 := h.ci (fl_get D hj)
      rw [Nat.zero_add] at e1 e2
      exact ⟨e1, e2, World.block_lt_of_cell? _ _ e1⟩)
    clear HRD HRE SAMEV hbd HSO HTO HX7 HSD7
    obtain ⟨dx, hdx⟩ : ∃ dx, dx = D i := ⟨_, rfl⟩
    obtain ⟨dy, hdy⟩ : ∃ dy, dy = D j := ⟨_, rfl⟩
    rw [← hdx, ← hdy] at hxx KEEP ⊢
    clear hdx hdy

    go_wp2_with fail
    go_region_held3 (fun V => V.cell? ⟨db, i, none⟩ = some (.int .i64 dx) ∧ V.cell? ⟨db, j, none⟩ = some (.int .i64 dy) ∧ db < V.heap.size)
      (first | exact KEEP.out _ (Below.refl _ _).drew | exact KEEP.out _ (bdrew (Below.refl _ _)) | exact KEEP.out _ hb8)
      (first
        | (go_at_call 10; refine (ALV.out _ (bdrew HB7.out)).mono ?_; rintro e w8 ⟨rfl, hBa, hB8⟩; have hb8 : Below w7.heap.size w7 w8 := (bdrew (Below.refl _ _)).trans hB8))
    all_goals
      go_wp2_with fail
      go_ret
      first
        | exact ⟨rfl, hBa⟩
        | exact ⟨rfl, bdrew hBa⟩
        | exact ⟨rfl, bdrew (bdrew hBa)⟩
end Go.Proofs.YtdhloijdefnkpaaGreatDoor

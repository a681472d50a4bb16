/-
  Lemmas.
-/
import Derived.Test.YtjchdegapadepaaGreatDoorGCanon
import Derived.Test.YtjchdegapadepaaGreatDoorGSameInts
import Derived.Test.YtjchdegapadepaaGreatDoorGMem
import Derived.Test.YtjchdegapadepaaGreatDoorGPl6
import Derived.Deep.DeepMust
import Derived.Test.YtjchdegapadepaaGreatDoorGCompactS
import Derived.Deep.RegionHeld3
import Derived.Deep.Cut
import Derived.Deep.CutRange
import Derived.Deep.QuietTactic
import Derived.BigQuiet
import Derived.IntWalk
import Derived.Test.YtjchdegapadepaaGreatDoorGTauJ
import Derived.Test.YtjchdegapadepaaGreatDoorGBrP
set_option maxRecDepth 100000
namespace Go.Proofs.YtjchdegapadepaaGreatDoor
open Go.RowKit Pl Go.Maps
open Lib (hid)
structure RC (w wr : World) (OB n : Nat) (f : Nat -> Value) (v : Value) (seen : List Int) : Prop where
  below : Below w.heap.size w wr
  row : wr.rowIs OB 3 n f
  own : wr.ownsRow (OB + 1) 3 1 v seen.length (seen.flatMap encI)
  ob : w.heap.size <= OB
theorem RC.set {w wr : World} {OB n : Nat} {f : Nat -> Value} {v : Value} {seen : List Int} (h : RC w wr OB n f v seen) (i : Nat) (x : Value) : RC w (wr.setCell ⟨OB, i, none⟩ x) OB n (fun j => if j = i then x else f j) v seen :=
  ⟨h.below.setCell h.ob _, h.row.set i _, ownsRow_setCell_below h.own (by show OB < OB + 1; omega) _, h.ob⟩
theorem RC.congr {w wr : World} {OB n : Nat} {f g : Nat -> Value} {v : Value} {seen : List Int} (h : RC w wr OB n f v seen) (e : ∀ i, i < n -> f i = g i) : RC w wr OB n g v seen :=
  ⟨h.below, h.row.congr e, h.own, h.ob⟩
theorem RC.call {w wr w' : World} {OB n : Nat} {f : Nat -> Value} {v : Value} {seen : List Int} (h : RC w wr OB n f v seen) (hB : Below wr.heap.size wr w') : RC w w' OB n f v seen :=
  ⟨h.below.trans (hB.mono h.below.size), h.row.of_block (hB.block _ h.row.lt), own_below h.own hB, h.ob⟩
theorem RC.push {w wr w1 : World} {OB n : Nat} {f : Nat -> Value} {v v' : Value} {seen ys : List Int} (h : RC w wr OB n f v seen) (hown : w1.ownsRow (OB + 1) 3 1 v' ys.length (ys.flatMap encI)) (hg : wr.grownBy w1 v.ownBlock) : RC w w1 OB n f v' ys :=
  ⟨h.below.grown hg h.below.size (fun k hk => by have := (h.own.lt k hk).1; have := h.ob; omega), h.row.of_block (hg.block _ h.row.lt (fun e => by have := (h.own.lt _ e.symm).1; omega)), hown, h.ob⟩
theorem RC.keepc {w wr w1 : World} {OB n : Nat} {f : Nat -> Value} {v : Value} {seen : List Int} (h : RC w wr OB n f v seen) (hg : wr.grownBy w1 v.ownBlock) {k : Nat} (hk : k < n) :
    w1.cell? ⟨OB, k, none⟩ = some (f k) /\ w1.frozen? ⟨OB, k, none⟩ = false /\ OB < w1.heap.size := by
 have h2 : w1.rowIs OB 3 n f := h.row.of_block (hg.block _ h.row.lt (fun e => by have := (h.own.lt _ e.symm).1; omega))
 exact ⟨h2.cell hk, h2.frozen k, h2.lt⟩
theorem cell_new1 {w : World} {x : Value} {T : TypeId} {g : Nat} (h : g = w.heap.size) : (w.alloc (.cells #[x] T)).cell? ⟨g, 0, none⟩ = some x := by subst h; simp [go_sem]
theorem q1j : ∀ {l : List Int} {j : Nat} {x : Int}, (∀ i, i < j -> l[i]? ≠ some x) -> l[j]? = some x -> l.idxOf x = j
  | [], j, x, _, h => by simp at h
  | y :: l, 0, x, _, h => by simp at h; subst h; simp
  | y :: l, j + 1, x, hn, h => by
    have h0 := hn 0 (by omega)
    have hb : (y == x) = false := by simpa using h0
    rw [List.idxOf_cons, hb, q1j (j := j) (fun i hi => by have := hn (i + 1) (by omega); simpa using this) (by simpa using h)]; rfl
theorem u1j {l : List Int} {x : Int} (h : ∀ i, i < l.length -> l[i]? ≠ some x) : x ∉ l := by
 intro hx
 obtain ⟨i, hi⟩ := List.getElem?_of_mem hx
 exact h i (List.getElem?_eq_some_iff.1 hi).1 hi
set_option maxHeartbeats 2000000 in
theorem p1r {w : World} {a : Option Addr} {b off c : Nat} {xs : List Int} (hS : SlAt encI 1 w a b off xs) (hn : xs.length <= 1000000) :
    Calls Tryz.prog 45 #[.slice a xs.length c] w fun e w' => ∃ v, e = .returned v /\ w'.ownsRow w.heap.size 3 1 v xs.length ((canon xs).flatMap encI) /\ Below w.heap.size w w' := by
 obtain ⟨n, hnn⟩ : ∃ n, n = xs.length := ⟨_, rfl⟩
 rw [<- hnn] at hn ⊢
 have hmk := run_make_row' (P := Tryz.prog) 27 3 (.int .i64 0) 8 Tryz.underlying27 (by kernel_rfl) rfl .i64 .i64 n (by omega) (by omega)
 have HS := hid hS; have HNN := hid hnn
 clear hS hnn
 go_enter Tryz.func45, Tryz.ntmps45
 go_wp2_with fail
 have h0 : RC w (w.alloc (.cells (madeCells #[.int .i64 0] n) 3)) w.heap.size n (rowAtK xs 0) (.slice none 0 0) (dist (xs.take 0)) :=
   ⟨(Below.refl _ _).alloc (Nat.le_refl _) _, (World.rowIs_made w (.int .i64 0) n 3).congr (fun i _ => by simp [rowAtK]), ⟨rfl, .inl ⟨rfl, rfl⟩⟩, Nat.le_refl _⟩
 have H0 := hid h0
 clear h0 hmk
 go_loopw [4, 5, 6] (fun v4 v5 _ wr => ∃ (k : Nat) (aa : Option Addr) (cc : Nat), k <= n /\ v5 = .int .i64 k /\ v4 = .slice aa (dist (xs.take k)).length cc /\ RC w wr w.heap.size n (rowAtK xs k) (.slice aa (dist (xs.take k)).length cc) (dist (xs.take k)))
   (fun _ v5 _ _ => n - (intOf v5).toNat)
 case atStart => exact ⟨0, none, 0, Nat.zero_le _, rfl, rfl, H0.out⟩
 case round => (
 obtain ⟨k, aa, cc, hk, rfl, rfl, hrc⟩ := hrel
 have HR := hid hrc
 clear hrc H0
 by_cases hlt : k < n
 · (
 obtain ⟨x, hx⟩ := j0a (xs := xs) (i := k) (by have := HNN.out; omega)
 have hkn : (k : Int) < (n : Int) := by omega
 have HX := hid hx
 have hdl : (dist (xs.take k)).length <= k := by have := k0h (xs.take k); simp at this; omega
 obtain ⟨m, hm⟩ : ∃ m, m = (dist (xs.take k)).length := ⟨_, rfl⟩
 rw [<- hm] at hdl ⊢
 have HM := hid hm
 clear hx hm
 go_wp2_with fail
 go_loopw [6] (fun v6 w2 => ∃ j u : Nat, j <= m /\ v6 = .int .i64 j /\ (∀ i, i < j -> (dist (xs.take k))[i]? ≠ some x) /\ w2 = wr.drewN u)
   (fun v6 _ => m - (intOf v6).toNat)
 case atStart => exact ⟨0, 0, Nat.zero_le _, rfl, by intro i hi; omega, rfl⟩
 case round => (
 obtain ⟨j, u, hj, rfl, hne, rfl⟩ := hrel
 have HNE := hid hne
 clear hne
 have hS2 := HS.out.below HR.out.below (Nat.le_refl _)
 obtain rfl := hS2.ad (by have := HNN.out; omega)
 have hcx := hS2.ci HX.out
 have hct : wr.cell? ⟨w.heap.size, k, none⟩ = some (.int .i64 0) := by have := HR.out.row.cell hlt; simpa [rowAtK] using this
 have hft : wr.frozen? ⟨w.heap.size, k, none⟩ = false := HR.out.row.frozen k
 have hxb := hS2.lt (by have := HNN.out; omega)
 have hwl : w.heap.size < wr.heap.size := HR.out.row.lt
 clear hS2
 by_cases hjm : j < m
 · (
 obtain ⟨ga, gc, g, hv, _, _, hsl, _⟩ := j0f k0v HR.out.own
 simp only [Value.slice.injEq] at hv
 obtain ⟨rfl, _, rfl⟩ := hv
 have hjd : j < (dist (xs.take k)).length := by rw [<- HM.out]; exact hjm
 obtain rfl := hsl.ad (by omega)
 obtain ⟨y, hy⟩ := j0a hjd
 have hcy := hsl.ci hy
 simp only [Nat.zero_add] at hcy
 have hjm' : (j : Int) < (m : Int) := by omega
 have hjmd : decide ((j : Int) < (m : Int)) = true := by simp; omega
 have HY := hid hy
 clear hsl hy hjd
 by_cases hxy : y = x
 · (
 have e1 : (y != x) = false := by simp [hxy]
 have e2 : (y == x) = true := by simp [hxy]
 have e3 : ((j : Int) == (m : Int)) = false := by simp; omega
 have HXY := hid hxy
 clear hxy
 go_wp2_with fail
 go_quiet (fail)
 go_wp2
 have hy2 := HY.out
 rw [HXY.out] at hy2
 have hix := q1j HNE.out hy2
 have hin : x ∈ dist (xs.take k) := List.mem_of_getElem? hy2
 have hd : dist (xs.take (k + 1)) = dist (xs.take k) := by rw [take_snoc HX.out, j0i]; unfold addN; rw [if_pos hin]
 have h1 := fun uu => ((HR.out.call (k0c (n := uu) (Below.refl _ _))).set k (.int .i64 j)).congr (g := rowAtK xs (k + 1)) (fun i _ => by (
 have := j0z HX.out i
 rw [hd, hix] at this
 exact this))
 have hml : m = (dist (xs.take (k + 1))).length := by rw [hd]; exact HM.out
 rw [<- hd] at h1
 have H1 := hid h1
 have HD := hid hml
 clear h1 hix hin hd hy2 hml
 go_roundw
 case rel => exact ⟨k + 1, _, _, by omega, by go_num, by rw [HD.out], H1.out _⟩
 case measure => simp [intOf]; omega)
 · (
 have e1 : (y != x) = true := by simp [hxy]
 have e2 : (y == x) = false := by simp [hxy]
 have HXY := hid hxy
 clear hxy
 go_wp2_with fail
 go_quiet (fail)
 go_wp2
 go_roundw
 case rel => exact ⟨j + 1, _, by omega, by go_num, by (
 intro i hi
 by_cases e : i = j
 · subst e; rw [HY.out]; intro h; exact HXY.out (by simpa using h)
 · exact HNE.out i (by omega)), rfl⟩
 case measure => simp [intOf]; omega))
 · (
 obtain rfl : j = m := by omega
 have hjmd : decide ((j : Int) < (j : Int)) = false := by simp
 have e3 : ((j : Int) == (j : Int)) = true := by simp
 go_wp2_with fail
 go_quiet (fail)
 have hrj : ∀ uu, RC w ((wr.drewN uu).alloc (.cells #[.int .i64 x] 3)) w.heap.size n (rowAtK xs k) (.slice aa j cc) (dist (xs.take k)) := fun uu => by
   have h := HR.out; rw [<- HM.out] at h; exact (h.call (k0c (n := uu) (Below.refl _ _))).call ((Below.refl _ _).alloc (Nat.le_refl _) _)
 have hownj : ∀ uu, ((wr.drewN uu).alloc (.cells #[.int .i64 x] 3)).ownsRow (w.heap.size + 1) 3 1 (.slice aa j cc) j ((dist (xs.take k)).flatMap encI) := fun uu => by
   have h := (hrj uu).own; rw [<- HM.out] at h; exact h
 have HRJ := hid hrj
 have HOJ := hid hownj
 have hbb : ∀ uu, w.heap.size + 1 <= ((wr.drewN uu).alloc (.cells #[.int .i64 x] 3)).heap.size := fun uu => by
   have h1 : wr.heap.size + 1 <= ((wr.drewN uu).alloc (.cells #[.int .i64 x] 3)).heap.size := by simp
   omega
 have HBB := hid hbb
 clear hownj hbb hrj
 go_wp2_with (at_builtin; go_must (refine k0d rfl _ _ _ rfl v0u (Below.refl _ _) (HBB.out _) rfl (HOJ.out _) ⟨wr.heap.size, 0, none⟩ 1 1 [.int .i64 x] rfl rfl (k0i (cell_new1 rfl)) (by simp [Value.oneCell']) (by decide) (by omega) (by unfold maxLen; omega) ?_); intro g cap w1 hown1 _ hg1; have kp := RC.keepc (HRJ.out _) hg1 hlt; have kp0 := kp.1; have kp1 := kp.2.1; have kp2 := kp.2.2; clear kp)
 have hmem : x ∉ dist (xs.take k) := u1j (fun i hi => HNE.out i (by have := HM.out; omega))
 have hd : dist (xs.take (k + 1)) = dist (xs.take k) ++ [x] := by rw [take_snoc HX.out, j0i]; unfold addN; rw [if_neg hmem]
 have hix : (dist (xs.take (k + 1))).idxOf x = j := by rw [hd, List.idxOf_append, HM.out]; simp [hmem]
 have hlen : j + 1 = (dist (xs.take (k + 1))).length := by rw [hd, List.length_append, HM.out]; rfl
 have h1 := (RC.push (v' := .slice (some ⟨g, 0, none⟩) (j + 1) cap) (ys := dist (xs.take (k + 1))) (HRJ.out _) (by rw [<- hlen, hd, List.flatMap_append]; exact hown1) hg1).set k (.int .i64 (j : Int))
 have h2 := h1.congr (g := rowAtK xs (k + 1)) (fun i _ => by (
 have := j0z HX.out i
 rw [hix] at this
 exact this))
 have hlen2 := hlen
 rw [hlen] at h2
 have H2 := hid h2; have HL := hid hlen2
 clear hmem hd hix hlen h1 h2 hlen2 hown1 hg1 kp0 kp1 kp2
 go_roundw
 case rel => exact ⟨k + 1, some ⟨g, 0, none⟩, cap, by omega, by go_num, by rw [<- HL.out], H2.out⟩
 case measure => simp [intOf]; omega)))
 · (
 obtain rfl : k = n := by omega
 go_wp2
 go_ret
 refine ⟨_, rfl, p1z HR.out.row (by rw [k0l]; exact HNN.out.symm) ?_ (by unfold maxLen; omega) (Nat.le_refl _), HR.out.below⟩
 intro i x hx
 rw [x0q] at hx
 obtain ⟨y, hy, rfl⟩ := Option.map_eq_some_iff.1 hx
 have hi := (List.getElem?_eq_some_iff.1 hy).1
 unfold rowAtK
 rw [if_pos (by have := HNN.out; omega), List.getD_eq_getElem?_getD, hy]; rfl))
end Go.Proofs.YtjchdegapadepaaGreatDoor
namespace Go.Proofs.YtjchdegapadepaaGreatDoor
open Go.RowKit Pl Go.Maps
theorem p0k {w : World} {a : Option Addr} {b off c : Nat} {xs : List Int} (hS : SlAt encI 1 w a b off xs) (hn : xs.length <= 1000000) :
    Calls Tryz.prog 27 #[.slice a xs.length c] w fun e w' => e = .returned (.int .i64 ((dist xs).length : Int)) /\ Below w.heap.size w w' := by
 have hq := p1r (c := c) hS hn
 have HQ := Lib.hid hq
 clear hS hq
 go_enter Tryz.func27, Tryz.ntmps27
 go_wp2_with fail
 refine HQ.out.mono ?_
 rintro e w1 ⟨v, rfl, hown, hB⟩
 rw [<- k0l xs] at hown
 obtain ⟨a1, c1, b1, rfl, _, _, h1, _⟩ := j0f k0v hown
 obtain ⟨n, hnn⟩ : ∃ n, n = (canon xs).length := ⟨_, rfl⟩
 rw [<- hnn]
 have hn' : n <= 1000000 := by rw [hnn, k0l]; exact hn
 have H1 := Lib.hid h1; have HB := Lib.hid hB; have HNN := Lib.hid hnn
 clear hown hB h1 HQ hn hnn
 go_wp2_with fail
 go_loopw [4, 5] (fun v4 v5 w2 => ∃ k : Nat, k <= n /\ v5 = .int .i64 k /\ v4 = .int .i64 (nUp xs k : Int) /\ w2 = w1)
   (fun _ v5 _ => n - (intOf v5).toNat)
 case atStart => exact ⟨0, Nat.zero_le _, rfl, by simp [nUp, dist], rfl⟩
 case round => (
 obtain ⟨k, hk, rfl, rfl, rfl⟩ := hrel
 have hup := nUp_le xs k
 obtain ⟨m, hm⟩ : ∃ m, m = nUp xs k := ⟨_, rfl⟩
 rw [<- hm] at hup ⊢
 have HM := Lib.hid hm
 clear hm
 by_cases hlt : k < n
 · (
 obtain ⟨y, hy⟩ := j0a (xs := canon xs) (i := k) (by rw [<- HNN.out]; exact hlt)
 obtain rfl := H1.out.ad (by rw [<- HNN.out]; omega)
 have hc := H1.out.ci hy
 simp only [Nat.zero_add] at hc
 have hkn : (k : Int) < (n : Int) := by omega
 rw [x0q] at hy
 obtain ⟨x, hx, rfl⟩ := Option.map_eq_some_iff.1 hy
 have hs := p2w hx
 have hb : ((dist xs).idxOf x : Int) <= 1000000 := by (
 have h1 := k0h xs
 have h2 : (dist xs).idxOf x <= (dist xs).length := List.idxOf_le_length
 have h3 := HNN.out
 rw [k0l] at h3
 omega)
 obtain ⟨z, hz⟩ : ∃ z : Int, z = ((dist xs).idxOf x : Int) := ⟨_, rfl⟩
 have hz0 : 0 <= z := by omega
 rw [<- hz] at hc hs hb
 rw [<- HM.out] at hs
 have HS := Lib.hid hs
 clear hy hx hs hz
 by_cases hle : (m : Int) <= z
 · go_wp2
   go_roundw
   case rel => exact ⟨k + 1, by omega, by go_num, by have := HS.out; rw [if_pos hle] at this; rw [this], by first | rfl | trivial⟩
   case measure => simp [intOf]; omega
 · go_wp2
   go_roundw
   case rel => exact ⟨k + 1, by omega, by go_num, by have := HS.out; rw [if_neg hle] at this; rw [this], by first | rfl | trivial⟩
   case measure => simp [intOf]; omega)
 · (
 obtain rfl : k = n := by omega
 have hmm : m = (dist xs).length := by
   have h3 := HNN.out; rw [k0l] at h3
   rw [HM.out]; unfold nUp; rw [List.take_of_length_le (by omega)]
 have HMM := Lib.hid hmm
 clear hmm
 go_wp2
 go_ret
 exact ⟨k2q (a := (m : Int)) (by rw [HMM.out]), HB.out⟩))
end Go.Proofs.YtjchdegapadepaaGreatDoor
namespace Go.Proofs.YtjchdegapadepaaGreatDoor
open Go.RowKit Pl
theorem q2u {α : Type} {xs ys : List α} (hl : xs.length = ys.length) (h : ∀ j, j < xs.length -> xs[j]? = ys[j]?) : xs = ys := by
 apply List.ext_getElem?
 intro j
 by_cases hj : j < xs.length
 · exact h j hj
 · rw [List.getElem?_eq_none (by omega), List.getElem?_eq_none (by omega)]
end Go.Proofs.YtjchdegapadepaaGreatDoor
namespace Go.Proofs.YtjchdegapadepaaGreatDoor
open Go.RowKit Pl
theorem v1q {a1 a2 : Option Addr} {b1 o1 c1 b2 o2 c2 : Nat} {xs ys : List S} {w : World} (h1 : SlAt encS 2 w a1 b1 o1 xs) (h2 : SlAt encS 2 w a2 b2 o2 ys) (hx : xs.length <= 1000000) (hy : ys.length <= 1000000) :
    Calls Tryz.prog 26 #[.slice a1 xs.length c1, .slice a2 ys.length c2] w fun e w' => e = .returned (.bool (decide (xs = ys))) /\ ∃ n, w' = w.drewN n := by
 by_cases hl : xs.length = ys.length
 · have hlB : ((xs.length : Int) != (ys.length : Int)) = false := by simp [hl]
   have HL := Lib.hid hl; clear hl
   go_enter Tryz.func26, Tryz.ntmps26
   go_wp2
   go_loopw [5] (fun i wr => ∃ k m : Nat, k <= xs.length /\ i = .int .i64 k /\ (∀ j, j < k -> xs[j]? = ys[j]?) /\ wr = w.drewN m)
     (fun i _ => xs.length - (intOf i).toNat)
   case atStart => exact ⟨0, 0, Nat.zero_le _, rfl, by intro j hj; omega, rfl⟩
   case round =>
     obtain ⟨k, m, hk, rfl, heq, rfl⟩ := hrel
     have HE := Lib.hid heq; clear heq
     by_cases hlt : k < xs.length
     · have hlt2 : k < ys.length := by rw [<- HL.out]; exact hlt
       obtain ⟨x, hxk⟩ := j0a hlt
       obtain ⟨y, hyk⟩ := j0a hlt2
       obtain rfl := h1.ad (by omega)
       obtain rfl := h2.ad (by omega)
       have c0 := h1.s0 hxk; have c1' := h1.s1 hxk
       have d0 := h2.s0 hyk; have d1 := h2.s1 hyk
       have hq := fun w => neqS x y w
       have hgd := guardS
       have hi1 : (k : Int) < (xs.length : Int) := by omega
       have hi2 : (k : Int) < (ys.length : Int) := by omega
       have HX := Lib.hid hxk; have HY := Lib.hid hyk
       clear h1 h2 hxk hyk
       by_cases hxy : x = y
       · have hb : decide (x = y) = true := by simp [hxy]
         have HXY := Lib.hid hxy; clear hxy
         go_wp2_with fail
         go_quiet (fail)
         go_wp2
         go_roundw
         case rel => exact ⟨k + 1, _, by omega, by go_num, by
           intro j hj
           by_cases hjk : j = k
           · subst hjk; rw [HX.out, HY.out, HXY.out]
           · exact HE.out j (by omega), rfl⟩
         case measure => simp [intOf]; omega
       · have hb : decide (x = y) = false := by simp [hxy]
         have HXY := Lib.hid hxy; clear hxy
         go_wp2_with fail
         go_quiet (fail)
         go_wp2
         go_ret
         refine ⟨?_, _, World.drewN_drewN _ _ _⟩
         have : xs ≠ ys := fun e => HXY.out (by have h1 := HX.out; have h2 := HY.out; rw [e, h2] at h1; simpa using h1.symm)
         simp [this]
     · clear h1 h2
       have hkk : k = xs.length := by omega
       go_wp2
       go_ret
       refine ⟨?_, _, rfl⟩
       have : xs = ys := q2u HL.out (by rw [<- hkk]; exact HE.out)
       simp [this]
 · have hlB : ((xs.length : Int) != (ys.length : Int)) = true := by simp; omega
   go_enter Tryz.func26, Tryz.ntmps26
   go_wp2
   go_ret
   have : xs ≠ ys := fun e => hl (by rw [e])
   exact ⟨by simp [this], 0, rfl⟩
end Go.Proofs.YtjchdegapadepaaGreatDoor
namespace Go.Proofs.YtjchdegapadepaaGreatDoor
open Go.RowKit Pl
section
variable {s : Lts} {n : Nat} {f : Nat -> Int} {D : List Nat}
structure BlkO (s : Lts) (n : Nat) (f : Nat -> Int) (D : List Nat) : Prop where
  right : s.Right
  st : s.st = (n : Int)
  cyc : Cyc s n f
  ord : OrdL (col s (fl n (clf n f))) (dist (fl n f)).length D
  all : ∀ k, k < (dist (fl n f)).length -> k ∈ D
def blkO (n : Nat) (f : Nat -> Int) (k : Nat) : List Nat := clsM (fl n (clf n f)) n k
def ordO (n : Nat) (f : Nat -> Int) (D : List Nat) : List Nat := D.flatMap (blkO n f)
def offO (n : Nat) (f : Nat -> Int) (D : List Nat) (d : Nat) : Nat := (ordO n f (D.take d)).length
theorem z1r {x k : Nat} : x ∈ blkO n f k ↔ x < n /\ asF n f x = k := by
 unfold blkO
 rw [q0c]
 constructor
 · rintro ⟨h1, h2⟩
   rw [j0h _ h1, x0u h1] at h2
   simp only [Option.some.injEq] at h2
   exact ⟨h1, by omega⟩
 · rintro ⟨h1, rfl⟩
   exact ⟨h1, by rw [j0h _ h1, x0u h1]⟩
theorem z1p {x : Nat} {L : List Nat} : x ∈ ordO n f L ↔ x < n /\ asF n f x ∈ L := by
 unfold ordO
 rw [List.mem_flatMap]
 constructor
 · rintro ⟨k, hk, hx⟩
   obtain ⟨h1, rfl⟩ := z1r.1 hx
   exact ⟨h1, hk⟩
 · rintro ⟨h1, h2⟩
   exact ⟨_, h2, z1r.2 ⟨h1, rfl⟩⟩
theorem ordO_K (n : Nat) (f : Nat -> Int) (D : List Nat) : (D.flatMap fun k : Nat => memK (fl n (clf n f)) n (k : Int)) = (ordO n f D).map Int.ofNat := q2s _ _ _
theorem BlkO.nodup (h : BlkO s n f D) : D.Nodup := h.ord.nodup
theorem BlkO.rng (h : BlkO s n f D) {k : Nat} (hk : k ∈ D) : k < (dist (fl n f)).length := h.ord.rng k hk
theorem BlkO.len (h : BlkO s n f D) : (ordO n f D).length = n := by
 have h1 := k1m (fl n (clf n f)) n h.nodup
 have h2 := z1y (C := fl n (clf n f)) (n := n) (M := (dist (fl n f)).length) (fun x hx => cls_in hx) h.all
 rw [ordO_K, List.length_map] at h1 h2
 omega
theorem p1b {d k : Nat} (hd : D[d]? = some k) : D.take (d + 1) = D.take d ++ [k] := by rw [List.take_add_one, hd]; rfl
theorem p2p {d k : Nat} (hd : D[d]? = some k) : ordO n f (D.take (d + 1)) = ordO n f (D.take d) ++ blkO n f k := by
 rw [p1b hd]; simp [ordO]
theorem u1h {d k : Nat} (hd : D[d]? = some k) : ordO n f D = ordO n f (D.take d) ++ (blkO n f k ++ ordO n f (D.drop (d + 1))) := by
 have h2 : ordO n f D = ordO n f (D.take (d + 1)) ++ ordO n f (D.drop (d + 1)) := by
   unfold ordO
   rw [<- List.flatMap_append, List.take_append_drop]
 rw [h2, p2p hd, List.append_assoc]
theorem BlkO.more (h : BlkO s n f D) {d : Nat} (hd : offO n f D d < n) : ∃ k, D[d]? = some k := by
 by_cases hl : d < D.length
 · exact ⟨D[d], List.getElem?_eq_getElem hl⟩
 · exfalso
   have := h.len
   unfold offO at hd
   rw [List.take_of_length_le (by omega)] at hd
   omega
theorem BlkO.next (h : BlkO s n f D) {d k y : Nat} (hd : D[d]? = some k) (hy : (ordO n f D)[offO n f D d + (blkO n f k).length]? = some y) : y < n /\ asF n f y ≠ k := by
 rw [u1h hd] at hy
 unfold offO at hy
 rw [List.getElem?_append_right (by omega), Nat.add_sub_cancel_left, List.getElem?_append_right (by omega), Nat.sub_self] at hy
 have h1 := z1p.1 (List.mem_of_getElem? hy)
 refine ⟨h1.1, fun e => ?_⟩
 rw [e] at h1
 have h2 := h.nodup
 rw [show D = D.take (d + 1) ++ D.drop (d + 1) from (List.take_append_drop _ _).symm, List.nodup_append] at h2
 exact h2.2.2 k (by rw [p1b hd]; simp) k h1.2 rfl
theorem BlkO.ahead (h : BlkO s n f D) {d k p t : Nat} (hd : D[d]? = some k) (hp : p < n) (hpk : asF n f p = k) (hs : tau s p t) (hne : asF n f t ≠ k) : t ∈ ordO n f (D.take d) := by
 have hl := p0r h.right h.st hs
 refine z1p.2 ⟨hl.2.1, ?_⟩
 have h1 : tau (col s (fl n (clf n f))) k (asF n f t) := (z0f h.right h.st).2 ⟨p, t, hp, hl.2.1, hs, hpk, rfl, fun e => hne e.2.symm⟩
 exact h.ord.ahead (q0n h.right h.st) (y0h _ _) d k _ hd h1
theorem BlkO.same (h : BlkO s n f D) {x y : Nat} (hx : x < n) (hy : y < n) (e : asF n f x = asF n f y) : TR s x y /\ TR s y x := (z0c h.cyc hx hy).1 e
end
end Go.Proofs.YtjchdegapadepaaGreatDoor
namespace Go.Proofs.YtjchdegapadepaaGreatDoor
open Go.RowKit Pl
namespace Pl
def inertE (C : Nat -> Int) (x : E) : Bool := decide (x.2.1 = 0) && decide (C x.2.2.toNat = C x.1.toNat)
def stillS (s : Lts) (C : Nat -> Int) : Lts := { s with es := s.es.filter (inertE C) }
def shareC (C : Nat -> Int) (g : Nat -> Nat) (F : Nat -> List S) (p : Nat) (x : S) : List S :=
  if x.1 = 0 /\ C x.2.toNat = C p then (if g x.2.toNat = g p then [] else F x.2.toNat) else [(x.1, C x.2.toNat)]
def actC (s : Lts) (C : Nat -> Int) (g : Nat -> Nat) (F : Nat -> List S) (q : Nat) : List S := (s.outs (q : Int)).flatMap (shareC C g F q)
/-! how long the lists get -/
theorem p2n (x : E) (es : List E) (a b c : Int) (q : Int) : (Lts.outs ⟨a, b, c, x :: es⟩ q).length = (Lts.outs ⟨a, b, c, es⟩ q).length + (if x.1 = q then 1 else 0) := by
 unfold Lts.outs
 simp only [List.length_map, List.filter_cons]
 by_cases h : x.1 = q
 · simp [h]
 · simp [h]
theorem y0p (x : E) (es : List E) (a b c : Int) : ∀ L : List Nat, L.Nodup -> (L.flatMap (fun q : Nat => Lts.outs ⟨a, b, c, x :: es⟩ (q : Int))).length <= (L.flatMap (fun q : Nat => Lts.outs ⟨a, b, c, es⟩ (q : Int))).length + (if x.1.toNat ∈ L then 1 else 0)
  | [], _ => by simp
  | q :: L, hn => by
    have hn2 := List.nodup_cons.1 hn
    have ih := y0p x es a b c L hn2.2
    rw [List.flatMap_cons, List.flatMap_cons, List.length_append, List.length_append, p2n]
    by_cases h : x.1 = (q : Int)
    · have e : x.1.toNat = q := by omega
      rw [e] at ih ⊢
      rw [if_neg hn2.1] at ih
      rw [if_pos h, if_pos (by simp)]
      omega
    · rw [if_neg h]
      by_cases h2 : x.1.toNat ∈ L
      · rw [if_pos h2] at ih; rw [if_pos (by simp [h2])]; omega
      · rw [if_neg h2] at ih; omega
theorem z0r (L : List Nat) (hn : L.Nodup) (a b c : Int) : ∀ es : List E, (L.flatMap (fun q : Nat => Lts.outs ⟨a, b, c, es⟩ (q : Int))).length <= es.length
  | [] => by
    have : L.flatMap (fun q : Nat => Lts.outs ⟨a, b, c, []⟩ (q : Int)) = [] := by
      rw [List.flatMap_eq_nil_iff]; intro q _; rfl
    rw [this]; simp
  | x :: es => by
    have h1 := y0p x es a b c L hn
    have h2 := z0r L hn a b c es
    rw [List.length_cons]
    split at h1 <;> omega
end Pl
end Go.Proofs.YtjchdegapadepaaGreatDoor
namespace Go.Proofs.YtjchdegapadepaaGreatDoor
open Go.RowKit Pl
theorem sysG {w : World} {B : Nat} {x y z : Int} {v : Value} (h : w.heap[B]? = some (.cells #[.int .i64 x, .int .i64 y, .int .i64 z, v] 24 (0, 0))) :
    w.cell? ⟨B, 0, none⟩ = some (.int .i64 x) /\ w.cell? ⟨B, 1, none⟩ = some (.int .i64 y) /\ w.cell? ⟨B, 2, none⟩ = some (.int .i64 z) /\ w.cell? ⟨B, 3, none⟩ = some v := by
 refine ⟨?_, ?_, ?_, ?_⟩ <;> simp [World.cell?, h]
theorem at_world {P : Program} {c : Code} {Q : Exit -> Act -> World -> Prop} {a : Act} {w : World} (R : World -> Prop) (h0 : R w) (h : ∀ W, R W -> c.wp P Q a W) : c.wp P Q a w := h w h0
theorem u1e {w : World} {b1 b2 : Nat} {t1 t2 : TypeId} {k1 k2 n1 n2 : Nat} {v1 v2 : Value} {x1 x2 : List Value} (h1 : w.ownsRow b1 t1 k1 v1 n1 x1) (h2 : w.ownsRow b2 t2 k2 v2 n2 x2) (hne : t1 ≠ t2) : ∀ g, v1.ownBlock = some g -> v2.ownBlock ≠ some g := fun g hg hg2 => by
  rcases h1.2 with ⟨e, _⟩ | ⟨g1, c1, cur1, e1, _, hh1, _⟩
  · rw [e] at hg; cases hg
  · rcases h2.2 with ⟨e, _⟩ | ⟨g2, c2, cur2, e2, _, hh2, _⟩
    · rw [e] at hg2; cases hg2
    · rw [e1] at hg; rw [e2] at hg2
      simp only [Value.ownBlock, Option.some.injEq] at hg hg2
      subst hg
      subst hg2
      rw [hh1] at hh2
      simp only [Option.some.injEq, Obj.cells.injEq] at hh2
      exact hne hh2.2.1
end Go.Proofs.YtjchdegapadepaaGreatDoor
namespace Go.Proofs.YtjchdegapadepaaGreatDoor
namespace Pl
section
variable {s : Lts} {n : Nat}
theorem rch_tauB (hr : s.Right) {q m : Nat} : Rch (tauOf s (q : Int)) (m : Int) ↔ TR s q m := by
 constructor
 · (
 intro h
 have h1 := h (fun x => ∃ m : Nat, x = (m : Int) /\ TR s q m) ⟨q, rfl, .refl⟩ (by (
 rintro a l b ⟨m, rfl, h2⟩ h3
 unfold tauOf at h3
 simp only [List.mem_filter, beq_iff_eq] at h3
 obtain ⟨h3, rfl⟩ := h3
 have h4 := j0e.1 (hr.edges _ h3)
 simp only at h4
 obtain ⟨b, rfl⟩ := Int.eq_ofNat_of_zero_le h4.2.2.2.2.1
 exact ⟨b, rfl, h2.tail h3⟩))
 obtain ⟨m', h2, h3⟩ := h1
 obtain rfl : m = m' := by omega
 exact h3)
 · intro h
   induction h with
   | refl => exact Rch.start _
   | @tail a b _ h2 ih => exact ih.step (l := 0) (by unfold tauOf; simp only [List.mem_filter]; exact ⟨h2, by simp⟩)
end
end Pl
end Go.Proofs.YtjchdegapadepaaGreatDoor

/-
  Lemmas.
-/
import Derived.Test.YtgikimbafakmcaaGreatDoorGLaidQun
import Derived.Test.YtgikimbafakmcaaGreatDoorGSameInts
import Derived.Test.YtgikimbafakmcaaGreatDoorGGraphA
import Derived.Test.YtgikimbafakmcaaGreatDoorGPl6
import Derived.Deep.DeepMust
import Derived.Test.YtgikimbafakmcaaGreatDoorGReach
import Derived.Test.YtgikimbafakmcaaGreatDoorGUniZ
import Derived.Test.YtgikimbafakmcaaGreatDoorGBrL
import Derived.Test.YtgikimbafakmcaaGreatDoorRefNext
set_option maxRecDepth 100000
namespace Go.Proofs.YtgikimbafakmcaaGreatDoor
open Go.RowKit Pl Go.Maps
open Lib (hid)
structure RC (w wr : World) (OB n : Nat) (f : Nat -> Value) (v : Value) (seen : List Int) : Prop where
  below : Below w.heap.size w wr
  row : wr.rowIs OB 3 n f
  own : wr.ownsRow (OB + 1) 3 1 v seen.length (seen.flatMap encI)
  ob : w.heap.size <= OB
theorem RC.set {w wr : World} {OB n : Nat} {f : Nat -> Value} {v : Value} {seen : List Int} (h : RC w wr OB n f v seen) (i : Nat) (x : Value) : RC w (wr.setCell ⟨OB, i, none⟩ x) OB n (fun j => if j = i then x else f j) v seen :=
  ⟨h.below.setCell h.ob _, h.row.set i _, ownsRow_setCell_below h.own (by show OB < OB + 1; omega) _, h.ob⟩
theorem RC.congr {w wr : World} {OB n : Nat} {f g : Nat -> Value} {v : Value} {seen : List Int} (h : RC w wr OB n f v seen) (e : ∀ i, i < n -> f i = g i) : RC w wr OB n g v seen :=
  ⟨h.below, h.row.congr e, h.own, h.ob⟩
theorem RC.call {w wr w' : World} {OB n : Nat} {f : Nat -> Value} {v : Value} {seen : List Int} (h : RC w wr OB n f v seen) (hB : Below wr.heap.size wr w') : RC w w' OB n f v seen :=
  ⟨h.below.trans (hB.mono h.below.size), h.row.of_block (hB.block _ h.row.lt), own_below h.own hB, h.ob⟩
theorem RC.push {w wr w1 : World} {OB n : Nat} {f : Nat -> Value} {v v' : Value} {seen ys : List Int} (h : RC w wr OB n f v seen) (hown : w1.ownsRow (OB + 1) 3 1 v' ys.length (ys.flatMap encI)) (hg : wr.grownBy w1 v.ownBlock) : RC w w1 OB n f v' ys :=
  ⟨h.below.grown hg h.below.size (fun k hk => by have := (h.own.lt k hk).1; have := h.ob; omega), h.row.of_block (hg.block _ h.row.lt (fun e => by have := (h.own.lt _ e.symm).1; omega)), hown, h.ob⟩
theorem RC.keepc {w wr w1 : World} {OB n : Nat} {f : Nat -> Value} {v : Value} {seen : List Int} (h : RC w wr OB n f v seen) (hg : wr.grownBy w1 v.ownBlock) {k : Nat} (hk : k < n) :
    w1.cell? ⟨OB, k, none⟩ = some (f k) /\ w1.frozen? ⟨OB, k, none⟩ = false /\ OB < w1.heap.size := by
 have h2 : w1.rowIs OB 3 n f := h.row.of_block (hg.block _ h.row.lt (fun e => by have := (h.own.lt _ e.symm).1; omega))
 exact ⟨h2.cell hk, h2.frozen k, h2.lt⟩
theorem cell_new1 {w : World} {x : Value} {T : TypeId} {g : Nat} (h : g = w.heap.size) : (w.alloc (.cells #[x] T)).cell? ⟨g, 0, none⟩ = some x := by subst h; simp [go_sem]
theorem idx_first : ∀ {l : List Int} {j : Nat} {x : Int}, (∀ i, i < j -> l[i]? ≠ some x) -> l[j]? = some x -> l.idxOf x = j
  | [], j, x, _, h => by simp at h
  | y :: l, 0, x, _, h => by simp at h; subst h; simp
  | y :: l, j + 1, x, hn, h => by
    have h0 := hn 0 (by omega)
    have hb : (y == x) = false := by simpa using h0
    rw [List.idxOf_cons, hb, idx_first (j := j) (fun i hi => by have := hn (i + 1) (by omega); simpa using this) (by simpa using h)]; rfl
theorem not_mem_of {l : List Int} {x : Int} (h : ∀ i, i < l.length -> l[i]? ≠ some x) : x ∉ l := by
 intro hx
 obtain ⟨i, hi⟩ := List.getElem?_of_mem hx
 exact h i (List.getElem?_eq_some_iff.1 hi).1 hi
set_option maxHeartbeats 2000000 in
theorem refCanon_any {w : World} {a : Option Addr} {b off c : Nat} {xs : List Int} (hS : SlAt encI 1 w a b off xs) (hn : xs.length <= 1000000) :
    Calls Tryz.prog 137 #[.slice a xs.length c] w fun e w' => ∃ v, e = .returned v /\ w'.ownsRow w.heap.size 3 1 v xs.length ((canon xs).flatMap encI) /\ Below w.heap.size w w' := by
 obtain ⟨n, hnn⟩ : ∃ n, n = xs.length := ⟨_, rfl⟩
 rw [<- hnn] at hn ⊢
 have hmk := run_make_row' (P := Tryz.prog) 58 3 (.int .i64 0) 8 Tryz.underlying58 (by kernel_rfl) rfl .i64 .i64 n (by omega) (by omega)
 have HS := hid hS; have HNN := hid hnn
 clear hS hnn
 go_enter Tryz.func137, Tryz.ntmps137
 go_wp2_with fail
 have h0 : RC w (w.alloc (.cells (madeCells #[.int .i64 0] n) 3)) w.heap.size n (rowAtK xs 0) (.slice none 0 0) (dist (xs.take 0)) :=
   ⟨(Below.refl _ _).alloc (Nat.le_refl _) _, (World.rowIs_made w (.int .i64 0) n 3).congr (fun i _ => by simp [rowAtK]), ⟨rfl, .inl ⟨rfl, rfl⟩⟩, Nat.le_refl _⟩
 have H0 := hid h0
 clear h0 hmk
 go_loopw [4, 5, 6] (fun v4 v5 _ wr => ∃ (k : Nat) (aa : Option Addr) (cc : Nat), k <= n /\ v5 = .int .i64 k /\ v4 = .slice aa (dist (xs.take k)).length cc /\ RC w wr w.heap.size n (rowAtK xs k) (.slice aa (dist (xs.take k)).length cc) (dist (xs.take k)))
   (fun _ v5 _ _ => n - (intOf v5).toNat)
 case atStart => exact ⟨0, none, 0, Nat.zero_le _, rfl, rfl, H0.out⟩
 case round => (
 obtain ⟨k, aa, cc, hk, rfl, rfl, hrc⟩ := hrel
 have HR := hid hrc
 clear hrc H0
 by_cases hlt : k < n
 · (
 obtain ⟨x, hx⟩ := getElem?_of_lt (xs := xs) (i := k) (by have := HNN.out; omega)
 have hkn : (k : Int) < (n : Int) := by omega
 have HX := hid hx
 have hdl : (dist (xs.take k)).length <= k := by have := dist_len (xs.take k); simp at this; omega
 obtain ⟨m, hm⟩ : ∃ m, m = (dist (xs.take k)).length := ⟨_, rfl⟩
 rw [<- hm] at hdl ⊢
 have HM := hid hm
 clear hx hm
 go_wp2_with fail
 go_loopw [6] (fun v6 w2 => ∃ j u : Nat, j <= m /\ v6 = .int .i64 j /\ (∀ i, i < j -> (dist (xs.take k))[i]? ≠ some x) /\ w2 = wr.drewN u)
   (fun v6 _ => m - (intOf v6).toNat)
 case atStart => exact ⟨0, 0, Nat.zero_le _, rfl, by intro i hi; omega, rfl⟩
 case round => (
 obtain ⟨j, u, hj, rfl, hne, rfl⟩ := hrel
 have HNE := hid hne
 clear hne
 have hS2 := HS.out.below HR.out.below (Nat.le_refl _)
 obtain rfl := hS2.ad (by have := HNN.out; omega)
 have hcx := hS2.ci HX.out
 have hct : wr.cell? ⟨w.heap.size, k, none⟩ = some (.int .i64 0) := by have := HR.out.row.cell hlt; simpa [rowAtK] using this
 have hft : wr.frozen? ⟨w.heap.size, k, none⟩ = false := HR.out.row.frozen k
 have hxb := hS2.lt (by have := HNN.out; omega)
 have hwl : w.heap.size < wr.heap.size := HR.out.row.lt
 clear hS2
 by_cases hjm : j < m
 · (
 obtain ⟨ga, gc, g, hv, _, _, hsl, _⟩ := slAt_own lenI HR.out.own
 simp only [Value.slice.injEq] at hv
 obtain ⟨rfl, _, rfl⟩ := hv
 have hjd : j < (dist (xs.take k)).length := by rw [<- HM.out]; exact hjm
 obtain rfl := hsl.ad (by omega)
 obtain ⟨y, hy⟩ := getElem?_of_lt hjd
 have hcy := hsl.ci hy
 simp only [Nat.zero_add] at hcy
 have hjm' : (j : Int) < (m : Int) := by omega
 have hjmd : decide ((j : Int) < (m : Int)) = true := by simp; omega
 have HY := hid hy
 clear hsl hy hjd
 by_cases hxy : y = x
 · (
 have e1 : (y != x) = false := by simp [hxy]
 have e2 : (y == x) = true := by simp [hxy]
 have e3 : ((j : Int) == (m : Int)) = false := by simp; omega
 have HXY := hid hxy
 clear hxy
 go_wp2_with fail
 go_quiet (fail)
 go_wp2
 have hy2 := HY.out
 rw [HXY.out] at hy2
 have hix := idx_first HNE.out hy2
 have hin : x ∈ dist (xs.take k) := List.mem_of_getElem? hy2
 have hd : dist (xs.take (k + 1)) = dist (xs.take k) := by rw [take_snoc HX.out, dist_snoc]; unfold addN; rw [if_pos hin]
 have h1 := fun uu => ((HR.out.call (bdrew (n := uu) (Below.refl _ _))).set k (.int .i64 j)).congr (g := rowAtK xs (k + 1)) (fun i _ => by (
 have := rowAtK_step HX.out i
 rw [hd, hix] at this
 exact this))
 have hml : m = (dist (xs.take (k + 1))).length := by rw [hd]; exact HM.out
 rw [<- hd] at h1
 have H1 := hid h1
 have HD := hid hml
 clear h1 hix hin hd hy2 hml
 go_roundw
 case rel => exact ⟨k + 1, _, _, by omega, by go_num, by rw [HD.out], H1.out _⟩
 case measure => simp [intOf]; omega)
 · (
 have e1 : (y != x) = true := by simp [hxy]
 have e2 : (y == x) = false := by simp [hxy]
 have HXY := hid hxy
 clear hxy
 go_wp2_with fail
 go_quiet (fail)
 go_wp2
 go_roundw
 case rel => exact ⟨j + 1, _, by omega, by go_num, by (
 intro i hi
 by_cases e : i = j
 · subst e; rw [HY.out]; intro h; exact HXY.out (by simpa using h)
 · exact HNE.out i (by omega)), rfl⟩
 case measure => simp [intOf]; omega))
 · (
 obtain rfl : j = m := by omega
 have hjmd : decide ((j : Int) < (j : Int)) = false := by simp
 have e3 : ((j : Int) == (j : Int)) = true := by simp
 go_wp2_with fail
 go_quiet (fail)
 have hrj : ∀ uu, RC w ((wr.drewN uu).alloc (.cells #[.int .i64 x] 3)) w.heap.size n (rowAtK xs k) (.slice aa j cc) (dist (xs.take k)) := fun uu => by
   have h := HR.out; rw [<- HM.out] at h; exact (h.call (bdrew (n := uu) (Below.refl _ _))).call ((Below.refl _ _).alloc (Nat.le_refl _) _)
 have hownj : ∀ uu, ((wr.drewN uu).alloc (.cells #[.int .i64 x] 3)).ownsRow (w.heap.size + 1) 3 1 (.slice aa j cc) j ((dist (xs.take k)).flatMap encI) := fun uu => by
   have h := (hrj uu).own; rw [<- HM.out] at h; exact h
 have HRJ := hid hrj
 have HOJ := hid hownj
 have hbb : ∀ uu, w.heap.size + 1 <= ((wr.drewN uu).alloc (.cells #[.int .i64 x] 3)).heap.size := fun uu => by
   have h1 : wr.heap.size + 1 <= ((wr.drewN uu).alloc (.cells #[.int .i64 x] 3)).heap.size := by simp
   omega
 have HBB := hid hbb
 clear hownj hbb hrj
 go_wp2_with (at_builtin; go_must (refine wpList_app1 rfl _ _ _ rfl rowI (Below.refl _ _) (HBB.out _) rfl (HOJ.out _) ⟨wr.heap.size, 0, none⟩ 1 1 [.int .i64 x] rfl rfl (cells1 (cell_new1 rfl)) (by simp [Value.oneCell']) (by decide) (by omega) (by unfold maxLen; omega) ?_); intro g cap w1 hown1 _ hg1; have kp := RC.keepc (HRJ.out _) hg1 hlt; have kp0 := kp.1; have kp1 := kp.2.1; have kp2 := kp.2.2; clear kp)
 have hmem : x ∉ dist (xs.take k) := not_mem_of (fun i hi => HNE.out i (by have := HM.out; omega))
 have hd : dist (xs.take (k + 1)) = dist (xs.take k) ++ [x] := by rw [take_snoc HX.out, dist_snoc]; unfold addN; rw [if_neg hmem]
 have hix : (dist (xs.take (k + 1))).idxOf x = j := by rw [hd, List.idxOf_append, HM.out]; simp [hmem]
 have hlen : j + 1 = (dist (xs.take (k + 1))).length := by rw [hd, List.length_append, HM.out]; rfl
 have h1 := (RC.push (v' := .slice (some ⟨g, 0, none⟩) (j + 1) cap) (ys := dist (xs.take (k + 1))) (HRJ.out _) (by rw [<- hlen, hd, List.flatMap_append]; exact hown1) hg1).set k (.int .i64 (j : Int))
 have h2 := h1.congr (g := rowAtK xs (k + 1)) (fun i _ => by (
 have := rowAtK_step HX.out i
 rw [hix] at this
 exact this))
 have hlen2 := hlen
 rw [hlen] at h2
 have H2 := hid h2; have HL := hid hlen2
 clear hmem hd hix hlen h1 h2 hlen2 hown1 hg1 kp0 kp1 kp2
 go_roundw
 case rel => exact ⟨k + 1, some ⟨g, 0, none⟩, cap, by omega, by go_num, by rw [<- HL.out], H2.out⟩
 case measure => simp [intOf]; omega)))
 · (
 obtain rfl : k = n := by omega
 go_wp2
 go_ret
 refine ⟨_, rfl, own_rowIs HR.out.row (by rw [canon_len]; exact HNN.out.symm) ?_ (by unfold maxLen; omega) (Nat.le_refl _), HR.out.below⟩
 intro i x hx
 rw [canon_get] at hx
 obtain ⟨y, hy, rfl⟩ := Option.map_eq_some_iff.1 hx
 have hi := (List.getElem?_eq_some_iff.1 hy).1
 unfold rowAtK
 rw [if_pos (by have := HNN.out; omega), List.getD_eq_getElem?_getD, hy]; rfl))
end Go.Proofs.YtgikimbafakmcaaGreatDoor
namespace Go.Proofs.YtgikimbafakmcaaGreatDoor
open Go.RowKit Pl Go.Maps
theorem refTogether_any {w : World} {a : Option Addr} {b off c : Nat} {xs : List Int} (hS : SlAt encI 1 w a b off xs) (hn : xs.length <= 1000000) :
    Calls Tryz.prog 115 #[.slice a xs.length c] w fun e w' => e = .returned (.int .i64 ((dist xs).length : Int)) /\ Below w.heap.size w w' := by
 have hq := refCanon_any (c := c) hS hn
 have HQ := Lib.hid hq
 clear hS hq
 go_enter Tryz.func115, Tryz.ntmps115
 go_wp2_with fail
 refine HQ.out.mono ?_
 rintro e w1 ⟨v, rfl, hown, hB⟩
 rw [<- canon_len xs] at hown
 obtain ⟨a1, c1, b1, rfl, _, _, h1, _⟩ := slAt_own lenI hown
 obtain ⟨n, hnn⟩ : ∃ n, n = (canon xs).length := ⟨_, rfl⟩
 rw [<- hnn]
 have hn' : n <= 1000000 := by rw [hnn, canon_len]; exact hn
 have H1 := Lib.hid h1; have HB := Lib.hid hB; have HNN := Lib.hid hnn
 clear hown hB h1 HQ hn hnn
 go_wp2_with fail
 go_loopw [4, 5] (fun v4 v5 w2 => ∃ k : Nat, k <= n /\ v5 = .int .i64 k /\ v4 = .int .i64 (nUp xs k : Int) /\ w2 = w1)
   (fun _ v5 _ => n - (intOf v5).toNat)
 case atStart => exact ⟨0, Nat.zero_le _, rfl, by simp [nUp, dist], rfl⟩
 case round => (
 obtain ⟨k, hk, rfl, rfl, rfl⟩ := hrel
 have hup := nUp_le xs k
 obtain ⟨m, hm⟩ : ∃ m, m = nUp xs k := ⟨_, rfl⟩
 rw [<- hm] at hup ⊢
 have HM := Lib.hid hm
 clear hm
 by_cases hlt : k < n
 · (
 obtain ⟨y, hy⟩ := getElem?_of_lt (xs := canon xs) (i := k) (by rw [<- HNN.out]; exact hlt)
 obtain rfl := H1.out.ad (by rw [<- HNN.out]; omega)
 have hc := H1.out.ci hy
 simp only [Nat.zero_add] at hc
 have hkn : (k : Int) < (n : Int) := by omega
 rw [canon_get] at hy
 obtain ⟨x, hx, rfl⟩ := Option.map_eq_some_iff.1 hy
 have hs := nUp_canon hx
 have hb : ((dist xs).idxOf x : Int) <= 1000000 := by (
 have h1 := dist_len xs
 have h2 : (dist xs).idxOf x <= (dist xs).length := List.idxOf_le_length
 have h3 := HNN.out
 rw [canon_len] at h3
 omega)
 obtain ⟨z, hz⟩ : ∃ z : Int, z = ((dist xs).idxOf x : Int) := ⟨_, rfl⟩
 have hz0 : 0 <= z := by omega
 rw [<- hz] at hc hs hb
 rw [<- HM.out] at hs
 have HS := Lib.hid hs
 clear hy hx hs hz
 by_cases hle : (m : Int) <= z
 · go_wp2
   go_roundw
   case rel => exact ⟨k + 1, by omega, by go_num, by have := HS.out; rw [if_pos hle] at this; rw [this], by first | rfl | trivial⟩
   case measure => simp [intOf]; omega
 · go_wp2
   go_roundw
   case rel => exact ⟨k + 1, by omega, by go_num, by have := HS.out; rw [if_neg hle] at this; rw [this], by first | rfl | trivial⟩
   case measure => simp [intOf]; omega)
 · (
 obtain rfl : k = n := by omega
 have hmm : m = (dist xs).length := by
   have h3 := HNN.out; rw [canon_len] at h3
   rw [HM.out]; unfold nUp; rw [List.take_of_length_le (by omega)]
 have HMM := Lib.hid hmm
 clear hmm
 go_wp2
 go_ret
 exact ⟨ret_i (a := (m : Int)) (by rw [HMM.out]), HB.out⟩))
end Go.Proofs.YtgikimbafakmcaaGreatDoor
namespace Go.Proofs.YtgikimbafakmcaaGreatDoor
namespace Pl
section
variable {s : Lts} {C : Nat -> Int} {n p q : Nat}
end
end Pl
end Go.Proofs.YtgikimbafakmcaaGreatDoor
namespace Go.Proofs.YtgikimbafakmcaaGreatDoor
namespace Pl
theorem can_rng12 {n : Nat} {C : Nat -> Int} (h : canon (fl n C) = fl n C) {p : Nat} (hp : p < n) : 0 <= C p /\ C p < (n : Int) := by
 have h1 := clf_rng (f := C) hp
 have h2 : clf n C p = C p := fl_inj (by rw [<- canon_fl, h]) hp
 have h3 := dist_le n C
 omega
end Pl
end Go.Proofs.YtgikimbafakmcaaGreatDoor
namespace Go.Proofs.YtgikimbafakmcaaGreatDoor
namespace Pl
def one (s : Lts) (m : Nat) (l : Int) (t : Nat) : Prop := (l = 0 /\ t = m) ∨ (l ≠ 0 /\ stp s m l t)
section
variable {s : Lts} {n : Nat}
end
/-! the saturated system -/
section
variable {s : Lts} {n lb : Nat} {K : Nat -> Nat -> Nat -> Bool}
end
/-! strong bisimilarity by rounds -/
def NextS (u : Nat -> Int -> Nat -> Prop) (n : Nat) (C D : Nat -> Int) : Prop :=
  ∀ p q, p < n -> q < n -> (D p = D q ↔ C p = C q /\ ∀ l e, (∃ t, t < n /\ u p l t /\ C t = e) ↔ (∃ t, t < n /\ u q l t /\ C t = e))
def HoldsS (s : Lts) (n : Nat) (C : Nat -> Int) : Prop := ∀ R, IsBis s n R -> ∀ p q, p < n -> q < n -> R p q -> C p = C q
section
variable {s : Lts} {n : Nat} {C D : Nat -> Int}
theorem HoldsS.zero : HoldsS s n (fun _ => 0) := fun _ _ _ _ _ _ _ => rfl
theorem HoldsS.next (h : HoldsS s n C) (hd : NextS (stp s) n C D) : HoldsS s n D := fun R hR p q hp hq e => by
  refine (hd p q hp hq).2 ⟨h R hR p q hp hq e, fun l c => ?_⟩
  obtain ⟨h1, h2⟩ := hR p q hp hq e
  constructor
  · rintro ⟨t, ht, hs, rfl⟩
    obtain ⟨u, hu, h3, h4⟩ := h1 l t ht hs
    exact ⟨u, hu, h3, (h R hR t u ht hu h4).symm⟩
  · rintro ⟨t, ht, hs, rfl⟩
    obtain ⟨u, hu, h3, h4⟩ := h2 l t ht hs
    exact ⟨u, hu, h3, h R hR u t hu ht h4⟩
theorem HoldsS.done (h : HoldsS s n C) (hd : NextS (stp s) n C D) (he : ∀ p, p < n -> D p = C p) : Big s n C where
  bis p q hp hq e := by
    have h1 := ((hd p q hp hq).1 (by rw [he p hp, he q hq]; exact e)).2
    refine ⟨fun l t ht hs => ?_, fun l u hu hs => ?_⟩
    · obtain ⟨u, hu, h2, h3⟩ := (h1 l (C t)).1 ⟨t, ht, hs, rfl⟩
      exact ⟨u, hu, h2, h3.symm⟩
    · obtain ⟨t, ht, h2, h3⟩ := (h1 l (C u)).2 ⟨u, hu, hs, rfl⟩
      exact ⟨t, ht, h2, h3⟩
  all := h
theorem next_moreS {u : Nat -> Int -> Nat -> Prop} (hd : NextS u n C D) (h1 : canon (fl n C) = fl n C) (h2 : canon (fl n D) = fl n D) (hne : fl n D ≠ fl n C) : (dist (fl n C)).length < (dist (fl n D)).length := by
 have href : ∀ p q, p < n -> q < n -> D p = D q -> C p = C q := fun p q hp hq e => ((hd p q hp hq).1 e).1
 by_cases h : ∀ p q, p < n -> q < n -> C p = C q -> D p = D q
 · exact absurd (canon_same_list h2 h1 (fun p q hp hq => ⟨href p q hp hq, h p q hp hq⟩)) hne
 · (
 have : ∃ a b, a < n /\ b < n /\ C a = C b /\ D a ≠ D b := by (
 apply Classical.byContradiction
 intro hno
 exact h (fun p q hp hq e => Classical.byContradiction (fun e2 => hno ⟨p, q, hp, hq, e, e2⟩)))
 obtain ⟨a, b, ha, hb, e1, e2⟩ := this
 exact more_classes href ha hb e1 e2)
end
/-! branching bisimilarity lies within it -/
section
variable {s : Lts} {n lb : Nat} {K : Nat -> Nat -> Nat -> Bool} {C : Nat -> Int}
end
end Pl
end Go.Proofs.YtgikimbafakmcaaGreatDoor
namespace Go.Proofs.YtgikimbafakmcaaGreatDoor
open Go.RowKit Pl
namespace Pl
section
variable {s : Lts} {n : Nat}
theorem mem_out9 {p : Nat} {x : S} : x ∈ s.norm.outs (p : Int) ↔ ((p : Int), x.1, x.2) ∈ s.es := by
 rw [mem_outs]
 show _ ∈ nf ltE s.es ↔ _
 rw [mem_nf stoE]
theorem atL_fl9 {f : Nat -> Int} {t : Nat} (h : t < n) : atL (fl n f) (t : Int) = f t := by
 unfold atL
 rw [Int.toNat_natCast, List.getD_eq_getElem?_getD, fl_get f h]; rfl
theorem outs_ok9 (hr : s.Right) (hn : s.st = (n : Int)) (p : Nat) : (s.norm.outs (p : Int)).length <= 20000 /\ ∀ x ∈ s.norm.outs (p : Int), 0 <= x.1 /\ x.1 <= 201 /\ 0 <= x.2 /\ x.2 < (n : Int) := by
 have hst := hr.st0
 refine ⟨?_, fun x hx => ?_⟩
 · have h1 := hr.norm.st0
   unfold Lts.outs
   rw [List.length_map]
   have := List.length_filter_le (fun x : E => x.1 == (p : Int)) s.norm.es
   omega
 · have h1 := offB_false.1 (hr.edges _ (mem_out9.1 hx))
   simp only at h1
   omega
theorem next_str (hr : s.Right) (hn : s.st = (n : Int)) {C : Nat -> Int} (hC : ∀ p, p < n -> 0 <= C p /\ C p <= 1000) : NextS (stp s) n C (clf n (fun i => (rep (nkey (fl n C) (fun p => s.norm.outs (p : Int))) i : Int))) := by
 intro p q hp hq
 have hgd : ∀ {p : Nat}, p < n -> (fl n C).getD p 0 = C p := fun {p} h => by rw [List.getD_eq_getElem?_getD, fl_get C h]; rfl
 have hm : ∀ {p : Nat}, ∀ v : Int, v ∈ (s.norm.outs (p : Int)).map (sgv (fl n C)) ↔ ∃ (l : Int) (t : Nat), t < n /\ stp s p l t /\ v = l * 1001 + C t := fun {p} v => by (
 rw [List.mem_map]
 constructor
 · (
 rintro ⟨x, hx, rfl⟩
 have h1 := mem_out9.1 hx
 have h2 := offB_false.1 (hr.edges _ h1)
 simp only at h2
 obtain ⟨l, t⟩ := x
 obtain ⟨t, rfl⟩ := Int.eq_ofNat_of_zero_le h2.2.2.2.2.1
 have ht : t < n := by omega
 exact ⟨l, t, ht, h1, by unfold sgv; rw [atL_fl9 ht]⟩)
 · rintro ⟨l, t, h1, h2, rfl⟩
   exact ⟨(l, (t : Int)), mem_out9.2 h2, by unfold sgv; rw [atL_fl9 h1]⟩)
 have hdir : ∀ {p q : Nat}, (∀ v : Int, v ∈ (s.norm.outs (p : Int)).map (sgv (fl n C)) -> v ∈ (s.norm.outs (q : Int)).map (sgv (fl n C))) -> ∀ l e, (∃ t, t < n /\ stp s p l t /\ C t = e) -> ∃ t, t < n /\ stp s q l t /\ C t = e := by (
 rintro p q h l e ⟨t, ht, h1, rfl⟩
 obtain ⟨l', t', h3, h4, h5⟩ := (hm _).1 (h _ ((hm _).2 ⟨l, t, ht, h1, rfl⟩))
 have c1 := hC t ht
 have c2 := hC t' h3
 obtain rfl : l = l' := by omega
 exact ⟨t', h3, h4, by omega⟩)
 rw [clf_eq (f := fun i => (rep (nkey (fl n C) (fun p => s.norm.outs (p : Int))) i : Int)) hp hq]
 simp only [Int.ofNat_inj, rep_iff]
 unfold nkey
 rw [Prod.mk.injEq, hgd hp, hgd hq]
 refine and_congr_right (fun _ => ?_)
 have hnf : nf ltI ((s.norm.outs (p : Int)).map (sgv (fl n C))) = nf ltI ((s.norm.outs (q : Int)).map (sgv (fl n C))) ↔ ∀ v : Int, v ∈ (s.norm.outs (p : Int)).map (sgv (fl n C)) ↔ v ∈ (s.norm.outs (q : Int)).map (sgv (fl n C)) := by (
 constructor
 · intro h v
   rw [<- mem_nf stoI v ((s.norm.outs (p : Int)).map (sgv (fl n C))), h, mem_nf stoI]
 · intro h
   exact nf_congr stoI h)
 rw [hnf]
 constructor
 · intro h l e
   exact ⟨hdir (fun v hv => (h v).1 hv) l e, hdir (fun v hv => (h v).2 hv) l e⟩
 · (
 intro h v
 rw [hm, hm]
 constructor
 · rintro ⟨l, t, h1, h2, rfl⟩
   obtain ⟨t', h4, h5, h6⟩ := (h l (C t)).1 ⟨t, h1, h2, rfl⟩
   exact ⟨l, t', h4, h5, by rw [h6]⟩
 · rintro ⟨l, t, h1, h2, rfl⟩
   obtain ⟨t', h4, h5, h6⟩ := (h l (C t)).2 ⟨t, h1, h2, rfl⟩
   exact ⟨l, t', h4, h5, by rw [h6]⟩)
end
end Pl
end Go.Proofs.YtgikimbafakmcaaGreatDoor

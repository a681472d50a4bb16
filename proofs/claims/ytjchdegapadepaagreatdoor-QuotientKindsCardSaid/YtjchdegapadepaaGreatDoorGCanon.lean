/-
  Lemmas.
-/
import Derived.Test.YtjchdegapadepaaGreatDoorGKit
import Derived.Test.YtjchdegapadepaaGreatDoorGPl3
import Derived.Maps.OwnSet
import Derived.Deep.DeepMust
import Derived.Outline
import Derived.Deep.QuietTactic
import Derived.BigQuiet
import Derived.Deep.RegionHeldLaw
import Derived.Test.YtjchdegapadepaaGreatDoorGMem
import Derived.Deep.AppendLies
import Derived.Deep.RegionLaw
set_option maxRecDepth 100000
namespace Go.Proofs.YtjchdegapadepaaGreatDoor
open Go.RowKit Pl Go.Maps
open Lib (hid)
theorem u0r : Keyed Tryz.prog 3 := int_keyed Tryz.underlying3
theorem j2n (w : World) : (zeroValue 3).run Tryz.prog w = .ok (.int .i64 0) w := by kernel_rfl
structure MapD (D : DataW Unit) (s : List Int) : Prop where
  has : ∀ x : Int, Maps.has D (.int .i64 x) = decide (x ∈ s)
  key : ∀ x ∈ s, D.atKey (.int .i64 x) (.lit (.int .i64 0)) = .lit (.int .i64 (s.idxOf x : Int))
  len : Maps.size D = s.length
theorem MapD.nil : MapD (.map []) [] := ⟨fun x => by simp [Maps.has], fun x h => by simp at h, rfl⟩
theorem MapD.push {D : DataW Unit} {s : List Int} {x : Int} (h : MapD D s) (ht : Tidy D) (hx : x ∉ s) : MapD (D.put (.int .i64 x) (.lit (.int .i64 (s.length : Int)))) (s ++ [x]) where
  has y := by
    by_cases e : y = x
    · subst e; rw [has_put_same (k := .int .i64 y) ht.isMap trivial]; simp
    · rw [has_put_other (by intro h; cases h; exact e rfl), h.has]; simp [e]
  key y hy := by
    by_cases e : y = x
    · subst e; rw [atKey_put_same (k := .int .i64 y) ht.isMap trivial, List.idxOf_append]; simp [hx]
    · have hys : y ∈ s := by simpa [e] using hy
      rw [atKey_put_other (by intro h; cases h; exact e rfl), h.key y hys, List.idxOf_append]; simp [hys]
  len := by rw [size_put ht, h.has]; simp [hx, h.len]
theorem p1z {w : World} {b n : Nat} {f : Nat -> Value} {xs : List Int} (h : w.rowIs b 3 n f) (hl : xs.length = n) (hf : ∀ i x, xs[i]? = some x -> f i = .int .i64 x) (hn : n <= maxLen) {base : Nat} (hb : base <= b) :
    w.ownsRow base 3 1 (.slice (some ⟨b, 0, none⟩) n n) n (xs.flatMap encI) := by
 obtain ⟨c, hh, hs, hc⟩ := h
 have hlen := j0b k0v xs
 refine ⟨by omega, .inr ⟨b, n, c, rfl, hb, hh, Nat.le_refl _, hn, by omega, ?_⟩⟩
 rw [Nat.mul_one, List.take_of_length_le (by simp; omega)]
 apply List.ext_getElem?
 intro i
 by_cases hi : i < n
 · obtain ⟨x, hx⟩ := j0a (show i < xs.length by omega)
   have := j0r k0v xs i x hx 0 _ rfl
   rw [Array.getElem?_toList, hc i hi, hf i x hx]
   simpa using this.symm
 · rw [List.getElem?_eq_none (by simp; omega), List.getElem?_eq_none (by omega)]
def rowAtK (xs : List Int) (k : Nat) (j : Nat) : Value := .int .i64 (if j < k then ((dist xs).idxOf (xs.getD j 0) : Int) else 0)
theorem j0z {xs : List Int} {k : Nat} {x : Int} (hx : xs[k]? = some x) (i : Nat) : (if i = k then Value.int .i64 ((dist (xs.take (k + 1))).idxOf x : Int) else rowAtK xs k i) = rowAtK xs (k + 1) i := by
 unfold rowAtK
 by_cases e : i = k
 · subst e
   have hm : x ∈ xs.take (i + 1) := by rw [take_snoc hx]; simp
   rw [if_pos rfl, if_pos (by omega), List.getD_eq_getElem?_getD, hx, <- u0s (xs.take (i + 1)) (xs.drop (i + 1)) hm, List.take_append_drop]; rfl
 · rw [if_neg e]
   by_cases h : i < k
   · rw [if_pos h, if_pos (by omega)]
   · rw [if_neg h, if_neg (by omega)]
set_option maxHeartbeats 2000000 in
theorem p0v {w : World} {a : Option Addr} {b off c : Nat} {xs : List Int} (hS : SlAt encI 1 w a b off xs) (hn : xs.length <= 1000000) (hwf : ∀ x ∈ xs, (Lit.int .i64 x).wf = true) :
    Calls Tryz.prog 37 #[.slice a xs.length c] w fun e w' => ∃ v, e = .returned v /\ w'.ownsRow w.heap.size 3 1 v xs.length ((canon xs).flatMap encI) /\ Below w.heap.size w w' := by
 obtain ⟨n, hnn⟩ : ∃ n, n = xs.length := ⟨_, rfl⟩
 rw [<- hnn] at hn ⊢
 have hmk := run_make_row' (P := Tryz.prog) 27 3 (.int .i64 0) 8 Tryz.underlying27 (by kernel_rfl) rfl .i64 .i64 n (by omega) (by omega)
 have hmm := @run_makeMap Tryz.prog
 have HS := hid hS; have HWF := hid hwf; have HNN := hid hnn
 clear hS hwf hnn
 go_enter Tryz.func37, Tryz.ntmps37
 go_wp2_with fail
 go_loopw [5, 6, 7, 8, 15] (fun _ _ _ _ i wr => ∃ (k : Nat) (D : DataW Unit), k <= n /\ i = .int .i64 k /\ MapD D (dist (xs.take k)) /\ wr.ownsMap Tryz.prog 3 (plainElem Tryz.prog 3) w.heap.size k D /\
     wr.rowIs (w.heap.size + 1) 3 n (rowAtK xs k) /\ Below w.heap.size w wr)
   (fun _ _ _ _ i _ => n - (intOf i).toNat)
 case atStart => (
 refine ⟨0, .map [], Nat.zero_le _, rfl, by simpa [dist] using MapD.nil, (World.ownsMap_made _ _ _ _).alloc _, ?_, ((Below.refl _ _).alloc (Nat.le_refl _) _).alloc (by simp) _⟩
 have := World.rowIs_made (w.alloc (.map #[] 0)) (.int .i64 0) n 3
 exact (by simpa using this : World.rowIs _ (w.heap.size + 1) _ _ _).congr (fun i _ => by simp [rowAtK]))
 case round => (
 obtain ⟨k, D, hk, rfl, hmd, hown, hrow, hB⟩ := hrel
 have hm := hown.size_le
 have hsz := hB.size
 have hrlt := hrow.lt
 have hmlt := hown.lt
 have HMD := hid hmd; have HOWN := hid hown; have HROW := hid hrow; have HB := hid hB
 clear hmd hown hrow hB
 by_cases hlt : k < n
 · (
 obtain ⟨x, hx⟩ := j0a (xs := xs) (i := k) (by have := HNN.out; omega)
 obtain rfl := HS.out.ad (by have := HNN.out; omega)
 have hcx := (HS.out.below HB.out (Nat.le_refl _)).ci hx
 have hkey := keyOf_int_mk Tryz.underlying3 (HWF.out x (List.mem_of_getElem? hx))
 have hfr : wr.frozen? ⟨w.heap.size + 1, k, none⟩ = false := HROW.out.frozen k
 have hct := HROW.out.cell hlt
 have hkn : (k : Int) < (n : Int) := by omega
 have HX := hid hx
 clear hx
 by_cases hin : x ∈ dist (xs.take k)
 · (
 have hh : Maps.has D (.int .i64 x) = true := by rw [HMD.out.has]; simp [hin]
 have HH := hid hh
 clear hh
 go_wp2_with (at_lookup; refine wpList_lookup_own_ok_int _ rfl _ _ 89 rfl 3 3 .i64 u0r Tryz.underlying89 Tryz.underlying3 (j2n _) w.heap.size k D rfl HOWN.out _ _ rfl hkey ?_; intro cc hat hwc; rw [HH.out])
 have hcc : cc = (((dist (xs.take k)).idxOf x : Nat) : Int) := by (
 have := HMD.out.key x hin
 rw [this] at hat
 simp only [DataW.lit.injEq, Lit.int.injEq] at hat
 exact hat.2.symm)
 subst hcc
 have hd : dist (xs.take (k + 1)) = dist (xs.take k) := by rw [take_snoc HX.out, j0i]; unfold addN; rw [if_pos hin]
 have hrw := (HROW.out.set k (.int .i64 ((dist (xs.take (k + 1))).idxOf x : Int))).congr (fun i _ => j0z HX.out i)
 rw [hd] at hrw
 have HD := hid hd; have HRW := hid hrw
 clear hd hrw
 go_roundw
 case rel => exact ⟨k + 1, D, by omega, by go_num, by rw [HD.out]; exact HMD.out, (HOWN.out.setCell (by simp) _).mono (Nat.le_succ _), HRW.out, HB.out.setCell (by simp) _⟩
 case measure => simp [intOf]; omega)
 · (
 have hh : Maps.has D (.int .i64 x) = false := by rw [HMD.out.has]; simp [hin]
 have HH := hid hh; have HIN := hid hin
 clear hh hin
 have hml := HMD.out.len
 have hdl : (dist (xs.take k)).length <= k := by omega
 have HML := hid hml
 clear hml
 go_wp2_with (first
   | (at_lookup; refine wpList_lookup_own_ok_int _ rfl _ _ 89 rfl 3 3 .i64 u0r Tryz.underlying89 Tryz.underlying3 (j2n _) w.heap.size k D rfl HOWN.out _ _ rfl hkey ?_; intro cc hat hwc; rw [HH.out])
   | (at_len; refine wpList_len_own _ rfl _ 89 rfl 3 3 Tryz.underlying89 _ w.heap.size k D rfl HOWN.out ?_; rw [HML.out])
   | (at_mapUpdate; refine wpList_mapUpdate_own _ rfl _ _ _ 89 rfl 3 3 u0r Tryz.underlying89 _ w.heap.size k D rfl HOWN.out (by unfold maxLen; omega) _ _ _ rfl rfl hkey _ [] (plainElem_int Tryz.underlying3 (WalkArith.wf_i64 (by omega))) ?_; intro w1 hown1 hgrow1; have hct1 := (HROW.out.of_block (hgrow1.block _ hrlt (by simp))).cell hlt; have hfr1 : w1.frozen? ⟨w.heap.size + 1, k, none⟩ = false := (HROW.out.of_block (hgrow1.block _ hrlt (by simp))).frozen k; have hrlt1 := (HROW.out.of_block (hgrow1.block _ hrlt (by simp))).lt))
 have hd : dist (xs.take (k + 1)) = dist (xs.take k) ++ [x] := by rw [take_snoc HX.out, j0i]; unfold addN; rw [if_neg HIN.out]
 have hix : (dist (xs.take (k + 1))).idxOf x = (dist (xs.take k)).length := by rw [hd, List.idxOf_append]; simp [HIN.out]
 have hrow1 : w1.rowIs (w.heap.size + 1) 3 n (rowAtK xs k) := HROW.out.of_block (hgrow1.block _ hrlt (by simp))
 have hB1 := HB.out.grown hgrow1 hsz (fun j hj => by cases hj; exact Nat.le_refl _)
 have hmd1 := HMD.out.push (HOWN.out.tidy u0r) HIN.out
 rw [<- hd] at hmd1
 have hrw := (hrow1.set k (.int .i64 ((dist (xs.take (k + 1))).idxOf x : Int))).congr (fun i _ => j0z HX.out i)
 rw [hix] at hrw
 have HRW := hid hrw; have HB1 := hid hB1; have HMD1 := hid hmd1; have HOWN1 := hid hown1
 clear hd hix hrow1 hB1 hmd1 hrw hown1 hgrow1 hct hfr
 go_roundw
 case rel => exact ⟨k + 1, _, by omega, by go_num, HMD1.out, HOWN1.out.setCell (by simp) _, HRW.out, HB1.out.setCell (by simp) _⟩
 case measure => simp [intOf]; omega))
 · (
 obtain rfl : k = n := by omega
 go_wp2
 go_ret
 refine ⟨_, rfl, p1z HROW.out (by rw [k0l]; exact HNN.out.symm) ?_ (by unfold maxLen; omega) (by omega), HB.out⟩
 intro i x hx
 rw [x0q] at hx
 obtain ⟨y, hy, rfl⟩ := Option.map_eq_some_iff.1 hx
 have hi := (List.getElem?_eq_some_iff.1 hy).1
 unfold rowAtK
 rw [if_pos (by have := HNN.out; omega), List.getD_eq_getElem?_getD, hy]; rfl))
end Go.Proofs.YtjchdegapadepaaGreatDoor
namespace Go.Proofs.YtjchdegapadepaaGreatDoor
open Go.RowKit Pl
theorem y1p {α : Type} {xs ys : List α} (hl : xs.length = ys.length) (h : ∀ j, j < xs.length -> xs[j]? = ys[j]?) : xs = ys := by
 apply List.ext_getElem? ; intro i
 by_cases hi : i < xs.length
 · exact h i hi
 · rw [List.getElem?_eq_none (by omega), List.getElem?_eq_none (by omega)]
theorem q0g {a1 a2 : Option Addr} {b1 o1 c1 b2 o2 c2 : Nat} {xs ys : List Int} {w : World} (h1 : SlAt encI 1 w a1 b1 o1 xs) (h2 : SlAt encI 1 w a2 b2 o2 ys) (hx : xs.length <= 9223372036854775807) (hy : ys.length <= 9223372036854775807) :
    Calls Tryz.prog 77 #[.slice a1 xs.length c1, .slice a2 ys.length c2] w fun e w' => e = .returned (.bool (decide (xs = ys))) /\ ∃ n, w' = w.drewN n := by
 by_cases hl : xs.length = ys.length
 · have hlB : ((xs.length : Int) != (ys.length : Int)) = false := by simp [hl]
   have HL := Lib.hid hl; clear hl
   go_enter Tryz.func77, Tryz.ntmps77
   go_wp2
   go_loopw [5, 13] (fun _ i wr => ∃ k m : Nat, k <= xs.length /\ i = .int .i64 k /\ (∀ j, j < k -> xs[j]? = ys[j]?) /\ wr = w.drewN m)
     (fun _ i _ => xs.length - (intOf i).toNat)
   case atStart => exact ⟨0, 0, Nat.zero_le _, rfl, by intro j hj; omega, rfl⟩
   case round =>
     obtain ⟨k, m, hk, rfl, heq, rfl⟩ := hrel
     have HE := Lib.hid heq; clear heq
     by_cases hlt : k < xs.length
     · have hlt2 : k < ys.length := by rw [<- HL.out]; exact hlt
       obtain ⟨x, hxk⟩ := j0a hlt
       obtain ⟨y, hyk⟩ := j0a hlt2
       obtain rfl := h1.ad (by omega)
       obtain rfl := h2.ad (by omega)
       have hc0 := h1.ci hxk
       have hc1 := h2.ci hyk
       have hi1 : (k : Int) < (xs.length : Int) := by omega
       have hi2 : (k : Int) < (ys.length : Int) := by omega
       have HX := Lib.hid hxk; have HY := Lib.hid hyk
       clear h1 h2 hxk hyk
       by_cases hxy : x = y
       · have hb : (x != y) = false := by simp [hxy]
         have HXY := Lib.hid hxy; clear hxy
         go_wp2_with fail
         go_quiet (fail)
         go_wp2
         go_roundw
         case rel => exact ⟨k + 1, _, by omega, by go_num, by
           intro j hj
           by_cases hjk : j = k
           · subst hjk; rw [HX.out, HY.out, HXY.out]
           · exact HE.out j (by omega), rfl⟩
         case measure => simp [intOf]; omega
       · have hb : (x != y) = true := by simp [hxy]
         have HXY := Lib.hid hxy; clear hxy
         go_wp2_with fail
         go_quiet (fail)
         go_wp2
         go_ret
         refine ⟨?_, _, World.drewN_drewN _ _ _⟩
         have : xs ≠ ys := fun e => HXY.out (by have h1 := HX.out; have h2 := HY.out; rw [e, h2] at h1; simpa using h1.symm)
         simp [this]
     · clear h1 h2
       have hkk : k = xs.length := by omega
       go_wp2
       go_ret
       refine ⟨?_, _, rfl⟩
       have : xs = ys := y1p HL.out (by rw [<- hkk]; exact HE.out)
       simp [this]
 · have hlB : ((xs.length : Int) != (ys.length : Int)) = true := by simp; omega
   go_enter Tryz.func77, Tryz.ntmps77
   go_wp2
   go_ret
   have : xs ≠ ys := fun e => hl (by rw [e])
   exact ⟨by simp [this], 0, rfl⟩
end Go.Proofs.YtjchdegapadepaaGreatDoor
namespace Go.Proofs.YtjchdegapadepaaGreatDoor
open Go.RowKit Pl
theorem y1s {w0 w : World} {B n : Nat} (h : Below B w0 w) : Below B w0 (w.drewN n) := ⟨h.os, h.tape, h.output, h.size, h.block⟩
def clB (st : Int) (l : List Int) : Bool := decide ((l.length : Int) = st) && decide (l = canon l)
theorem v0l {w : World} {a : Option Addr} {b off c : Nat} {l : List Int} (st lb s0 : Int) (ev : Value) (hS : SlAt encI 1 w a b off l) (hn : l.length <= 1000000) (hwf : ∀ x ∈ l, (Lit.int .i64 x).wf = true) :
    Calls Tryz.prog 50 #[.agg #[.int .i64 st, .int .i64 lb, .int .i64 s0, ev], .slice a l.length c] w fun e w' => e = .returned (.bool (clB st l)) /\ Below w.heap.size w w' := by
 have HS := Lib.hid hS; have HWF := Lib.hid hwf
 clear hS hwf
 unfold clB
 by_cases hl : (l.length : Int) = st
 · subst hl
   go_enter Tryz.func50, Tryz.ntmps50
   go_wp2_with fail
   have hB0 := (Below.refl w.heap.size w).alloc (Nat.le_refl _) (Obj.cells #[.int .i64 l.length, .int .i64 lb, .int .i64 s0, ev] 24)
   have hS0 := HS.out.below hB0 (Nat.le_refl _)
   refine (p0v hS0 hn HWF.out).mono ?_
   rintro e w1 ⟨v, rfl, hown, hB1⟩
   have hlc := k0l l
   rw [<- hlc] at hown
   obtain ⟨a1, c1, b1, rfl, _, _, hs1, _⟩ := j0f k0v hown
   have hB1' := hB0.trans (hB1.mono (by simp))
   have hq := q0g (c1 := c) (c2 := c1) (HS.out.below hB1' (Nat.le_refl _)) hs1 (by omega) (by omega)
   rw [hlc] at hq
   have HQ := Lib.hid hq; have HB := Lib.hid hB1'
   clear hB0 hS0 hown hB1 hs1 hB1' hq
   go_wp2_with fail
   refine (HQ.out).mono ?_
   rintro e w2 ⟨rfl, m, rfl⟩
   go_wp2
   go_ret
   exact ⟨by simp, y1s HB.out⟩
 · have hb : ((l.length : Int) == st) = false := by simp [hl]
   go_enter Tryz.func50, Tryz.ntmps50
   go_wp2
   go_ret
   exact ⟨by simp [hl], (Below.refl w.heap.size w).alloc (Nat.le_refl _) _⟩
end Go.Proofs.YtjchdegapadepaaGreatDoor
namespace Go.Proofs.YtjchdegapadepaaGreatDoor
open Go.RowKit
theorem qT (i : Nat) {P : Program} {ops : Array Oper} {Q : Exit -> Act -> World -> Prop} {md : Region.Mode} {S : World -> Prop} {oi : Oper} {v : Value} {fuel : Nat} {listed : Array Bool} {a : Act} {w : World}
    (hv : ∀ w, S w -> (execOp a.eval oi).run P w = .ok (.value v) w) (h : wpAnyH P md ops Q S fuel (listed.setIfInBounds i true) (a.put oi.dst v) w)
    (hi : ops[i]? = some oi := by rfl) (hs : Region.noSelect ops = true := by kernel_rfl) (hf : Region.free md ops listed i = true := by kernel_rfl) (hr : (Region.ready md ops listed).contains i = true := by kernel_rfl)
    (hQ : ∀ c a w, Q (.panic c) (a.put oi.dst v) w -> Q (.panic c) a w := by exact fun _ _ _ h => h) (hw : Region.wanted oi (yielded ops a.tmps) = true := by rfl) (hS : S w := by assumption) :
    wpAnyH P md ops Q S (fuel + 1) listed a w :=
  wpAnyH_take hi hs hf hr hQ (.inl ⟨hw, hv⟩) hS h
end Go.Proofs.YtjchdegapadepaaGreatDoor
namespace Go.Proofs.YtjchdegapadepaaGreatDoor
open Go.RowKit Pl
structure Rw where
  T : TypeId
  k : Nat
  v : Value
  n : Nat
  xs : List Value
structure Rws (w0 w : World) (L : List Rw) : Prop where
  bel : Below w0.heap.size w0 w
  own : ∀ r ∈ L, w.ownsRow w0.heap.size r.T r.k r.v r.n r.xs
  apart : L.Pairwise (fun a b => ∀ g, a.v.ownBlock = some g -> b.v.ownBlock ≠ some g)
section
variable {w0 w w' w1 : World} {L : List Rw} {r : Rw}
theorem k0o {base : Nat} {e : TypeId} {k n : Nat} {v : Value} {xs : List Value} (h : w.ownsRow base e k v n xs) (hb : ∀ g, v.ownBlock = some g -> w'.heap[g]? = w.heap[g]?) : w'.ownsRow base e k v n xs := by
 refine ⟨h.1, ?_⟩
 rcases h.2 with h2 | ⟨g, cap, cur, hv, hbg, hg, r⟩
 · exact .inl h2
 · exact .inr ⟨g, cap, cur, hv, hbg, by rw [hb g (by rw [hv]; rfl)]; exact hg, r⟩
theorem Rws.call (h : Rws w0 w L) (hB : Below w.heap.size w w') : Rws w0 w' L :=
  ⟨h.bel.trans (hB.mono h.bel.size), fun r hr => own_below (h.own r hr) hB, h.apart⟩
theorem Rws.drew (h : Rws w0 w L) : Rws w0 w.drew L := h.call (Below.refl _ _).drew
theorem Rws.drewN (h : Rws w0 w L) (m : Nat) : Rws w0 (w.drewN m) L := h.call (k0c (Below.refl _ _))
theorem Rws.alloc (h : Rws w0 w L) (o : Obj) : Rws w0 (w.alloc o) L := h.call ((Below.refl _ _).alloc (Nat.le_refl _) o)
theorem Rws.get (h : Rws w0 w L) {i : Nat} (hi : L[i]? = some r) : w.ownsRow w0.heap.size r.T r.k r.v r.n r.xs := h.own r (List.mem_of_getElem? hi)
theorem Rws.nil (hB : Below w0.heap.size w0 w) : Rws w0 w [] := ⟨hB, fun _ h => by simp at h, .nil⟩
theorem Rws.ne (h : Rws w0 w L) {i j : Nat} {a b : Rw} (hi : L[i]? = some a) (hj : L[j]? = some b) (hij : i ≠ j) {g : Nat} (ha : a.v.ownBlock = some g) : b.v.ownBlock ≠ some g := by
 have hp := List.pairwise_iff_getElem.1 h.apart
 obtain ⟨hil, rfl⟩ := List.getElem?_eq_some_iff.1 hi
 obtain ⟨hjl, rfl⟩ := List.getElem?_eq_some_iff.1 hj
 rcases Nat.lt_or_gt_of_ne hij with hlt | hlt
 · exact hp i j hil hjl hlt g ha
 · intro hb
   exact hp j i hjl hil hlt g hb ha
theorem Rws.put (h : Rws w0 w L) {i : Nat} {a b : Rw} (hi : L[i]? = some a) (hB : Below w0.heap.size w0 w1)
    (hk : ∀ g, a.v.ownBlock ≠ some g -> g < w.heap.size -> w1.heap[g]? = w.heap[g]?) (ho : w1.ownsRow w0.heap.size b.T b.k b.v b.n b.xs)
    (hl : ∀ g, b.v.ownBlock = some g -> a.v.ownBlock = some g ∨ w.heap.size <= g) : Rws w0 w1 (L.set i b) := by
 obtain ⟨hil, hia⟩ := List.getElem?_eq_some_iff.1 hi
 refine ⟨hB, fun r hr => ?_, ?_⟩
 · (
 obtain ⟨j, hj, rfl⟩ := List.getElem_of_mem hr
 rw [List.getElem_set]
 by_cases e : i = j
 · rw [if_pos e]; exact ho
 · rw [if_neg e]
   have hjl : j < L.length := by simpa using hj
   have hjo := h.own L[j] (List.getElem_mem hjl)
   refine k0o hjo (fun g hg => hk g (fun e2 => ?_) (hjo.lt g hg).2)
   exact h.ne hi (List.getElem?_eq_getElem hjl) e e2 hg)
 · (
 rw [List.pairwise_iff_getElem]
 intro p q hp hq hpq g hg
 rw [List.length_set] at hp hq
 rw [List.getElem_set] at hg ⊢
 have key : ∀ j (hj : j < L.length), i ≠ j -> b.v.ownBlock = some g -> L[j].v.ownBlock = some g -> False := fun j hj e hb hjg => by (
 rcases hl g hb with h1 | h1
 · exact h.ne hi (List.getElem?_eq_getElem hj) e h1 hjg
 · have := ((h.own L[j] (List.getElem_mem hj)).lt g hjg).2; omega)
 by_cases e1 : i = p
 · rw [if_pos e1] at hg
   rw [if_neg (by omega)]
   exact fun hq2 => key q hq (by omega) hg hq2
 · (
 rw [if_neg e1] at hg
 by_cases e2 : i = q
 · rw [if_pos e2]
   exact fun hb => key p hp e1 hb hg
 · rw [if_neg e2]
   exact h.ne (List.getElem?_eq_getElem hp) (List.getElem?_eq_getElem hq) (by omega) hg))
theorem Rws.set (h : Rws w0 w L) (i : Nat) {T : TypeId} {k n m g c : Nat} {xs : List Value} (hi : L[i]? = some ⟨T, k, .slice (some ⟨g, 0, none⟩) m c, n, xs⟩) (j : Nat) (u : Value) :
    Rws w0 (w.setCell ⟨g, j, none⟩ u) (L.set i ⟨T, k, .slice (some ⟨g, 0, none⟩) m c, n, xs.set j u⟩) := by
 have ho := h.get hi
 have hmn : m = n := by (
 rcases ho.2 with ⟨h2, _⟩ | ⟨g', cap', cur, hv, _⟩
 · simp at h2
 · simp only [Value.slice.injEq] at hv; exact hv.2.1)
 subst hmn
 obtain ⟨h1, h2⟩ := ho.stored j u
 have hg := (ho.lt g rfl).1
 refine h.put hi (h.bel.setCell hg _) (fun b hb _ => Below.heap_setCell _ _ _ _ (fun e => hb (by simp [Value.ownBlock, e]))) h1 (fun b hb => .inl hb)
theorem Rws.grown {w2 : World} (h : Rws w0 w L) (hB2 : Below w.heap.size w w2) (i : Nat) {T : TypeId} {k n n' : Nat} {v v' : Value} {xs xs' : List Value} (hi : L[i]? = some ⟨T, k, v, n, xs⟩) (ho : w1.ownsRow w0.heap.size T k v' n' xs') (hg : w2.grownBy w1 v.ownBlock)
    (hl : ∀ g, v'.ownBlock = some g -> v.ownBlock = some g ∨ w.heap.size <= g) : Rws w0 w1 (L.set i ⟨T, k, v', n', xs'⟩) :=
  h.put hi ((h.bel.trans (hB2.mono h.bel.size)).grown hg (Nat.le_trans h.bel.size hB2.size) (fun b hb => ((h.get hi).lt b hb).1))
    (fun b hb hl => (hg.block b (Nat.lt_of_lt_of_le hl hB2.size) (fun e => hb e.symm)).trans (hB2.block b hl)) ho hl
theorem Rws.add (h : Rws w0 w L) {T : TypeId} {k n : Nat} {v : Value} {xs : List Value} (hB : Below w.heap.size w w1) (ho : w1.ownsRow w.heap.size T k v n xs) : Rws w0 w1 (⟨T, k, v, n, xs⟩ :: L) where
  bel := h.bel.trans (hB.mono h.bel.size)
  own r hr := by
    rcases List.mem_cons.1 hr with rfl | hr
    · exact j0o ho h.bel.size
    · exact own_below (h.own r hr) hB
  apart := by
    refine List.pairwise_cons.2 ⟨fun b hb g hg hg2 => ?_, h.apart⟩
    have := (ho.lt g hg).1
    have := ((h.own b hb).lt g hg2).2
    omega
theorem Rws.addNil (h : Rws w0 w L) (T : TypeId) (k : Nat) : Rws w0 w (⟨T, k, .slice none 0 0, 0, []⟩ :: L) :=
  h.add (Below.refl _ _) (World.ownsRow_nil _ _ _ _)
theorem Rws.addLit (h : Rws w0 w L) (cs : Array Value) (T : TypeId) {k n : Nat} (hm : n <= maxLen) (hs : cs.size = n * k) : Rws w0 (w.alloc (.cells cs T)) (⟨T, k, .slice (some ⟨w.heap.size, 0, none⟩) n n, n, cs.toList⟩ :: L) :=
  h.add ((Below.refl _ _).alloc (Nat.le_refl _) _) (World.ownsRow_lit w cs n (Nat.le_refl _) hm hs)
theorem Rws.perm {L' : List Rw} (h : Rws w0 w L) (hp : L.Perm L') : Rws w0 w L' :=
  ⟨h.bel, fun r hr => h.own r (hp.mem_iff.2 hr), h.apart.perm hp (fun {_ _} h1 g hg hg2 => h1 g hg2 hg)⟩
theorem Rws.sub {L' : List Rw} (h : Rws w0 w L) (hs : L'.Sublist L) : Rws w0 w L' :=
  ⟨h.bel, fun r hr => h.own r (hs.subset hr), h.apart.sublist hs⟩
theorem Rws.form (h : Rws w0 w L) {i : Nat} {T : TypeId} {k n : Nat} {v : Value} {xs : List Value} (hi : L[i]? = some ⟨T, k, v, n, xs⟩) (hn : 0 < n) : ∃ g c, v = .slice (some ⟨g, 0, none⟩) n c /\ n <= c /\ c <= maxLen /\ w0.heap.size <= g /\ g < w.heap.size := by
 have ho := h.get hi
 rcases ho.2 with ⟨_, h2⟩ | ⟨g, c, cur, hv, hb, hg, h3, h4, _⟩
 · have h2 : n = 0 := h2
   omega
 · exact ⟨g, c, hv, h3, h4, hb, (Array.getElem?_eq_some_iff.1 hg).1⟩
theorem Rws.cell (h : Rws w0 w L) {i : Nat} {T : TypeId} {k n m g c : Nat} {xs : List Value} (hi : L[i]? = some ⟨T, k, .slice (some ⟨g, 0, none⟩) m c, n, xs⟩) {j : Nat} {u : Value} (hj : xs[j]? = some u) : w.cell? ⟨g, j, none⟩ = some u := by
 have ho := h.get hi
 have := ho.cells rfl j u hj
 have hadd : (⟨g, 0, none⟩ : Addr).add j = ⟨g, j, none⟩ := by unfold Addr.add; split <;> simp_all
 rwa [hadd] at this
theorem Rws.fz (h : Rws w0 w L) {i : Nat} {T : TypeId} {k n m g c : Nat} {xs : List Value} (hi : L[i]? = some ⟨T, k, .slice (some ⟨g, 0, none⟩) m c, n, xs⟩) (j : Nat) : w.frozen? ⟨g, j, none⟩ = false := by
 have ho := h.get hi
 rcases ho.2 with ⟨h2, _⟩ | ⟨g', c', cur, hv, _, hg, _⟩
 · simp at h2
 · simp only [Value.slice.injEq, Option.some.injEq, Addr.mk.injEq, and_true] at hv
   obtain ⟨rfl, _⟩ := hv
   simp [World.frozen?, hg]
theorem Rws.lt (h : Rws w0 w L) {i : Nat} {T : TypeId} {k n m g c : Nat} {xs : List Value} (hi : L[i]? = some ⟨T, k, .slice (some ⟨g, 0, none⟩) m c, n, xs⟩) : w0.heap.size <= g /\ g < w.heap.size := (h.get hi).lt g rfl
theorem Rws.ne' (h : Rws w0 w L) {i j : Nat} {T T' : TypeId} {k n m g c k' n' m' g' c' : Nat} {xs xs' : List Value} (hi : L[i]? = some ⟨T, k, .slice (some ⟨g, 0, none⟩) m c, n, xs⟩) (hj : L[j]? = some ⟨T', k', .slice (some ⟨g', 0, none⟩) m' c', n', xs'⟩) (hij : i ≠ j) : g ≠ g' := fun e =>
  h.ne hi hj hij rfl (by simp [Value.ownBlock, e])
theorem Rws.sl (h : Rws w0 w L) {α : Type} {enc : α -> List Value} {i : Nat} {T : TypeId} {k n : Nat} {v : Value} {ys : List α} (hi : L[i]? = some ⟨T, k, v, n, ys.flatMap enc⟩) (hk : ∀ x, (enc x).length = k) (hn : n = ys.length) :
    ∃ a c b, v = .slice a ys.length c /\ ys.length <= c /\ c <= maxLen /\ SlAt enc k w a b 0 ys /\ (0 < ys.length -> w0.heap.size <= b) := by
 subst hn
 exact j0f hk (h.get hi)
end
theorem j0x {P : Program} {w : World} {ops : Array Oper} {rest : List Oper} {o : Oper} {a : Act} {Q : Exit -> Act -> World -> Prop} (hgd : o.guard = none) (s x : Operand) (t : TypeId)
    (ho : o.op = .call { callee := .builtin .append, args := #[s, x], argTypes := #[t, t] })
    {e : TypeId} {size bytes : Nat} {z : Value} (R : IsRow P t e size bytes z) {base : Nat} (hb0 : base <= w.heap.size)
    {v : Value} {n : Nat} {xs : List Value} (hs : a.eval s = v) (hown : w.ownsRow base e size v n xs)
    (ad : Addr) (m c : Nat) (news : List Value) (hx : a.eval x = .slice (some ad) m c) (hl : news.length = m * size) (hnews : ∀ j u, news[j]? = some u -> w.cell? (ad.add j) = some u) (h1 : ∀ u ∈ news, u.oneCell' = true) (hm : 0 < m)
    (hbytes : (n + m) * bytes <= 140737488355328) (hmax : n + m <= maxLen) (B : Nat) (hB : B <= w.heap.size)
    (h : ∀ g cap w', w'.ownsRow base e size (.slice (some ⟨g, 0, none⟩) (n + m) cap) (n + m) (xs ++ news) -> w.grownBy w' v.ownBlock -> (v.ownBlock = some g ∨ B <= g) -> g < w'.heap.size -> wpList P ops Q rest (a.put o.dst (.slice (some ⟨g, 0, none⟩) (n + m) cap)) w') : wpList P ops Q (o :: rest) a w := by
 obtain ⟨i, hi, hz, hsz, hby⟩ := R.info
 exact wpList_plain hgd fun _ hK => wp_append_lies w s x t ho base e i z size bytes R.ht hi hz hsz hby R.zs R.pos v n xs hs hown ad m c news hx hl hnews h1 hm hmax hbytes hb0 w.heap.size rfl (fun g cap w' h2 h3 h4 h5 => hK _ _ (h g cap w' h2 h3 (h4.imp_right (fun e => by omega)) h5))
theorem y0x {P : Program} {w : World} {ops : Array Oper} {o : Oper} {a : Act} {K : Act -> World -> Prop} {Q : Exit -> Act -> World -> Prop} {F : Prop} (hgd : o.guard = none) (s x : Operand) (t : TypeId)
    (ho : o.op = .call { callee := .builtin .append, args := #[s, x], argTypes := #[t, t] })
    {e : TypeId} {size bytes : Nat} {z : Value} (R : IsRow P t e size bytes z) {base : Nat} (hb0 : base <= w.heap.size)
    {v : Value} {n : Nat} {xs : List Value} (hs : a.eval s = v) (hown : w.ownsRow base e size v n xs)
    (ad : Addr) (m c : Nat) (news : List Value) (hx : a.eval x = .slice (some ad) m c) (hl : news.length = m * size) (hnews : ∀ j u, news[j]? = some u -> w.cell? (ad.add j) = some u) (h1 : ∀ u ∈ news, u.oneCell' = true) (hm : 0 < m)
    (hbytes : (n + m) * bytes <= 140737488355328) (hmax : n + m <= maxLen) (B : Nat) (hB : B <= w.heap.size)
    (h : ∀ g cap w', w'.ownsRow base e size (.slice (some ⟨g, 0, none⟩) (n + m) cap) (n + m) (xs ++ news) -> w.grownBy w' v.ownBlock -> (v.ownBlock = some g ∨ B <= g) -> g < w'.heap.size -> K (a.put o.dst (.slice (some ⟨g, 0, none⟩) (n + m) cap)) w') :
    if Region.wanted o (yielded ops a.tmps) = true then Oper.wp P o a w K Q else F := by
 have hw : Region.wanted o (yielded ops a.tmps) = true := by simp [Region.wanted, hgd]
 rw [if_pos hw]
 obtain ⟨i, hi, hz, hsz, hby⟩ := R.info
 exact wp_append_lies w s x t ho base e i z size bytes R.ht hi hz hsz hby R.zs R.pos v n xs hs hown ad m c news hx hl hnews h1 hm hmax hbytes hb0 w.heap.size rfl (fun g cap w' h2 h3 h4 h5 => h g cap w' h2 h3 (h4.imp_right (fun e => by omega)) h5)
end Go.Proofs.YtjchdegapadepaaGreatDoor

/-
  Lemmas.
-/
import Derived.Test.YtgikimbafakmcaaGreatDoorGQuoB
import Derived.Test.YtgikimbafakmcaaGreatDoorGRws
import Derived.Test.YtgikimbafakmcaaGreatDoorGFault
import Derived.Laws.AppendOwnNone
import Derived.Test.YtgikimbafakmcaaGreatDoorGGraphA
import Derived.Test.YtgikimbafakmcaaGreatDoorGPl6
import Derived.Deep.RegionHeld3
import Derived.Deep.Cut
import Derived.Deep.CutRange
import Derived.Deep.QuietTactic
import Derived.BigQuiet
import Derived.IntWalk
import Derived.Deep.DeepMust
import Derived.Test.YtgikimbafakmcaaGreatDoorGPl1
import Derived.BigRegion
import Derived.Deep.LoopGhost
import Derived.Test.YtgikimbafakmcaaGreatDoorGLaidQun
import Derived.Test.YtgikimbafakmcaaGreatDoorGAs
import Derived.Test.YtgikimbafakmcaaGreatDoorGNew
import Derived.Test.YtgikimbafakmcaaGreatDoorGSameInts
import Derived.Test.YtgikimbafakmcaaGreatDoorGOrder
set_option maxHeartbeats 8000000
set_option maxRecDepth 100000
namespace Go.Proofs.YtgikimbafakmcaaGreatDoor
open Go.RowKit Pl
open Lib (hid)
def SamePost (s : Lts) (n z : Nat) (t : Lts) (m y : Nat) (w : World) (e : Ending) (w' : World) : Prop :=
  ∃ r, e = .returned (.tuple #[.bool r, .nilIface]) /\ (r = true ↔ Eqv s n z t m y) /\ Below w.heap.size w w'
theorem same_any {p : Addr} {s t : Lts} {n z m y : Nat} (hs : s.Right) (ht : t.Right) (hn : s.st = (n : Int)) (hm : t.st = (m : Int)) (hn0 : 0 < n) (hm0 : 0 < m) (hz : s.s0 = (z : Int)) (hy : t.s0 = (y : Int)) (h1 : s.st + t.st <= 1000) (h2 : s.es.length + t.es.length <= 10000) {a a2 : Option Addr} {b off c b2 off2 c2 : Nat} {w : World} (hG : GErr 0 p w) (hS : SlAt encE 3 w a b off s.es) (hT : SlAt encE 3 w a2 b2 off2 t.es) :
    Calls Tryz.prog 13 #[.agg #[.int .i64 s.st, .int .i64 s.lb, .int .i64 s.s0, .slice a s.es.length c], .agg #[.int .i64 t.st, .int .i64 t.lb, .int .i64 t.s0, .slice a2 t.es.length c2]] w (SamePost s n z t m y w) := by
 have k1 := hs.st0; have k2 := ht.st0
 have hzn : z < n := by omega
 have hym : y < m := by omega
 have hB0 := ((Below.refl w.heap.size w).alloc (Nat.le_refl _) (Obj.cells #[.int .i64 s.st, .int .i64 s.lb, .int .i64 s.s0, .slice a s.es.length c] 24)).alloc (by simp) (Obj.cells #[.int .i64 t.st, .int .i64 t.lb, .int .i64 t.s0, .slice a2 t.es.length c2] 24)
 have hx0 := (((Below.refl _ _).alloc (Nat.le_refl _) (Obj.cells #[.int .i64 t.st, .int .i64 t.lb, .int .i64 t.s0, .slice a2 t.es.length c2] 24)).block w.heap.size (by simp)).trans (heap_alloc_new w (Obj.cells #[.int .i64 s.st, .int .i64 s.lb, .int .i64 s.s0, .slice a s.es.length c] 24))
 have hy0 := heap_alloc_at (w.alloc (Obj.cells #[.int .i64 s.st, .int .i64 s.lb, .int .i64 s.s0, .slice a s.es.length c] 24)) (Obj.cells #[.int .i64 t.st, .int .i64 t.lb, .int .i64 t.s0, .slice a2 t.es.length c2] 24) (w.heap.size + 1) (by simp)
 have HUN := hid (union_any (c := c) (c2 := c2) hs ht (by omega) h1 h2 (hG.below hB0) (hS.below hB0 (Nat.le_refl _)) (hT.below hB0 (Nat.le_refl _)))
 have HUR := hid (uni_Right hs ht h1 h2)
 have HST : Hid ((uniS s t).st = ((n + m : Nat) : Int)) := hid (by show s.st + t.st = _; omega)
 have HB0 := hid hB0; have HX0 := hid hx0; have HY0 := hid hy0; have HG := hid hG; have HR := hid hs; have HRT := hid ht; have HN := hid hn; have HM := hid hm; have HZ := hid hz; have HYY := hid hy
 have g1 : ¬ s.st = 0 := by omega
 have g2 : ¬ t.st = 0 := by omega
 have g3 : (s.st == 0) = false := by simp [g1]
 have g4 : (t.st == 0) = false := by simp [g2]
 have hnm : n + m <= 1000 := by omega
 obtain ⟨u, hu⟩ : ∃ u, u = uniS s t := ⟨_, rfl⟩
 unfold UniPost at HUN
 rw [<- hu] at HUN HUR HST
 have HU := hid hu
 clear hB0 hx0 hy0 hG hs ht hS hT hn hm hz hy h1 h2 k1 k2 hu
 go_enter Tryz.func13, Tryz.ntmps13
 go_wp2_with fail
 refine HUN.out.mono ?_
 rintro e w1 ⟨ea, eb, ec, rfl, hes, hB1⟩
 have hB2 := (hB1.mono (show w.heap.size + 1 + 1 <= _ by simp)).alloc (by have := hB1.size; simp at this; omega) (.cells #[.int .i64 u.st, .int .i64 u.lb, .int .i64 u.s0, .slice ea u.es.length ec] 24)
 have hx2 := (hB2.block w.heap.size (by omega)).trans HX0.out
 have hy2 := (hB2.block (w.heap.size + 1) (by omega)).trans HY0.out
 have hb2 := HB0.out.trans (hB2.mono (show _ <= w.heap.size + 1 + 1 by omega))
 have hs2 := hes.below ((Below.refl w1.heap.size w1).alloc (Nat.le_refl _) (.cells #[.int .i64 u.st, .int .i64 u.lb, .int .i64 u.s0, .slice ea u.es.length ec] 24)) (Nat.le_refl _)
 have hg2 := HG.out.below hb2
 have hu2 := heap_alloc_new w1 (Obj.cells #[.int .i64 u.st, .int .i64 u.lb, .int .i64 u.s0, .slice ea u.es.length ec] 24)
 obtain ⟨w2, hw2⟩ : ∃ w2, w2 = w1.alloc (.cells #[.int .i64 u.st, .int .i64 u.lb, .int .i64 u.s0, .slice ea u.es.length ec] 24) := ⟨_, rfl⟩
 obtain ⟨X, hX⟩ : ∃ X, X = w.heap.size := ⟨_, rfl⟩
 obtain ⟨Z, hZ⟩ : ∃ Z, Z = w.heap.size + 1 := ⟨_, rfl⟩
 obtain ⟨U, hU⟩ : ∃ U, U = w1.heap.size := ⟨_, rfl⟩
 rw [<- hw2] at hx2 hy2 hb2 hs2 hg2 hu2
 rw [<- hX] at hx2
 rw [<- hZ] at hy2
 rw [<- hU] at hu2
 have HCL := hid (strClasses_any (c := ec) HUR.out HST.out hg2 hs2)
 have HX2 := hid hx2; have HY2 := hid hy2; have HU2 := hid hu2; have HB2 := hid hb2
 clear hB2 hes hB1 hs2 hg2 HB0 HX0 HY0 HUN
 obtain ⟨x0, x1, x2, x3, x4⟩ := sys9 hx2
 obtain ⟨z0, z1, z2, z3, z4⟩ := sys9 hy2
 obtain ⟨u0, u1, u2, u3, u4⟩ := sys9 hu2
 clear hx2 hy2 hb2 hu2
 go_upto_region 2 with fail
 rw [<- hZ, <- hX, <- hU, <- hw2]
 clear hZ hX hU hw2
 go_wp2_with fail
 refine HCL.out.mono ?_
 unfold StrClasses
 rintro e w3 ⟨inn, ca, cc, hbig, rfl, hown, hB3⟩
 have hcl : (canon (flN (n + m) inn)).length = n + m := by rw [canon_len, flN_len]
 have hos : SlAt encI 1 w3 ca (blkOf ca) 0 (canon (flN (n + m) inn)) := ((Rws.nil (Below.refl w2.heap.size w2)).add hB3 hown).slO (i := 0) rfl lenI hcl.symm
 rw [canon9] at hos
 obtain ⟨cb, hcb⟩ : ∃ cb, cb = blkOf ca := ⟨_, rfl⟩
 rw [<- hcb] at hos
 clear hcb
 obtain rfl := hos.ad (by rw [fl_len]; omega)
 have d0 := hos.ci (fl_get (cl9 (n + m) inn) (i := z) (by omega))
 have d1 := hos.ci (fl_get (cl9 (n + m) inn) (i := n + y) (by omega))
 have dl := hos.lt (by rw [fl_len]; omega)
 have hbu := cl9_big hbig
 rw [HU.out] at hbu
 have HUB := hid (uni_big HR.out HRT.out HN.out hbu hzn hym)
 obtain ⟨c1, hc1⟩ : ∃ c1, c1 = cl9 (n + m) inn z := ⟨_, rfl⟩
 obtain ⟨c2, hc2⟩ : ∃ c2, c2 = cl9 (n + m) inn (n + y) := ⟨_, rfl⟩
 rw [<- hc1] at d0 HUB
 rw [<- hc2] at d1 HUB
 have hx3 := (hB3.block X x4).trans HX2.out
 have hy3 := (hB3.block Z z4).trans HY2.out
 have HB3 := hid (HB2.out.trans (hB3.mono HB2.out.size)).drew
 clear x0 x1 x2 x3 x4 z0 z1 z2 z3 z4 u0 u1 u2 u3 u4
 have x2 : w3.cell? ⟨X, 2, none⟩ = some (.int .i64 (z : Int)) := by rw [<- HZ.out]; exact (sys9 hx3).2.2.1
 have x4 := (sys9 hx3).2.2.2.2
 have z2 : w3.cell? ⟨Z, 2, none⟩ = some (.int .i64 (y : Int)) := by rw [<- HYY.out]; exact (sys9 hy3).2.2.1
 have z4 := (sys9 hy3).2.2.2.2
 clear hcl hos hbu hbig hown hB3 hx3 hy3 HX2 HY2 HU2 HB2 hc1 hc2 HCL
 have g5 : IntKind.i64.wrap ((y : Int) + s.st) = ((n + y : Nat) : Int) := by rw [HN.out, IntWalk.i64_in _ (by omega)]; omega
 have g6 : ((n + y : Nat) : Int) < ((n + m : Nat) : Int) := by omega
 have g7 : (z : Int) < ((n + m : Nat) : Int) := by omega
 simp only [Nat.zero_add] at d0 d1
 go_upto_region 7 with fail
 go_region
 go_wp2
 go_ret2
 exact ⟨_, rfl, by rw [beq_iff_eq]; exact HUB.out, HB3.out⟩
end Go.Proofs.YtgikimbafakmcaaGreatDoor
namespace Go.Proofs.YtgikimbafakmcaaGreatDoor
open Go.RowKit Pl
namespace Pl
def al14 : Lts := ⟨3, 2, 0, [(0, 1, 1), (0, 1, 2)]⟩
theorem al14_right : al14.Right := ⟨by unfold HeadBad al14; simp, by decide⟩
theorem al14_norm : al14.norm = al14 := by
 unfold Lts.norm
 have : nf ltE al14.es = al14.es := by decide
 rw [this]
theorem al14_big {C : Nat -> Int} (h : Big al14 3 C) : C 0 ≠ C 1 /\ C 1 = C 2 := by
 have hs : ∀ p l t, stp al14 p l t ↔ l = 1 /\ p = 0 /\ (t = 1 ∨ t = 2) := fun p l t => by (
 unfold stp al14
 simp only [List.mem_cons, Prod.mk.injEq, List.not_mem_nil, or_false]
 omega)
 constructor
 · intro e
   obtain ⟨u, _, h1, _⟩ := (h.bis 0 1 (by omega) (by omega) e).1 1 1 (by omega) ((hs _ _ _).2 (by omega))
   rw [hs] at h1; omega
 · (
 exact h.all (fun p q => p = q ∨ (p = 1 /\ q = 2) ∨ (p = 2 /\ q = 1)) (fun p q hp hq hr => by (
 refine ⟨fun l t ht hst => ?_, fun l t ht hst => ?_⟩
 · rw [hs] at hst
   rcases hr with rfl | ⟨rfl, rfl⟩ | ⟨rfl, rfl⟩
   · exact ⟨t, ht, (hs _ _ _).2 hst, .inl rfl⟩
   · omega
   · omega
 · rw [hs] at hst
   rcases hr with rfl | ⟨rfl, rfl⟩ | ⟨rfl, rfl⟩
   · exact ⟨t, ht, (hs _ _ _).2 hst, .inl rfl⟩
   · omega
   · omega)) 1 2 (by omega) (by omega) (.inr (.inl ⟨rfl, rfl⟩)))
theorem al14_reach : reachL al14 = [0, 1, 2] := by
 have h0 : Rch al14 0 := Rch.start al14
 have h1 : Rch al14 1 := h0.step (l := 1) (by decide)
 have h2 : Rch al14 2 := h0.step (l := 1) (by decide)
 unfold reachL
 show List.filter _ [(0 : Int), 1, 2] = _
 simp [h0, h1, h2]
theorem al14_quo {C : Nat -> Int} (h : Big al14 3 C) : quoS al14 (fl 3 C) = ⟨2, 2, 0, [(0, 1, 1)]⟩ /\ fl 3 (fun j => toI (quoD al14 (fl 3 C)) (C j)) = [0, 1, 1] := by
 obtain ⟨h1, h2⟩ := al14_big h
 have a0 : atL (fl 3 C) 0 = C 0 := atLF (n := 3) (f := C) (t := 0) (by omega)
 have a1 : atL (fl 3 C) 1 = C 1 := atLF (n := 3) (f := C) (t := 1) (by omega)
 have a2 : atL (fl 3 C) 2 = C 2 := atLF (n := 3) (f := C) (t := 2) (by omega)
 have hd : quoD al14 (fl 3 C) = [C 0, C 1] := by (
 unfold quoD clsL
 rw [al14_reach]
 simp only [List.map_cons, List.map_nil, a0, a1, a2, <- h2]
 have e : ([C 0, C 1, C 1] : List Int) = [] ++ [C 0] ++ [C 1] ++ [C 1] := rfl
 rw [e, dist_snoc, dist_snoc, dist_snoc]
 unfold addN
 simp [dist, Ne.symm h1])
 have t0 : toI [C 0, C 1] (C 0) = 0 := by unfold toI; simp
 have t1 : toI [C 0, C 1] (C 1) = 1 := by (
 have e : (C 0 == C 1) = false := by simp [h1]
 unfold toI
 simp [List.idxOf_cons, e])
 have o0 : al14.outs 0 = [(1, 1), (1, 2)] := by decide
 have o1 : al14.outs 1 = [] := by decide
 have o2 : al14.outs 2 = [] := by decide
 have he : quoE al14 (fl 3 C) [C 0, C 1] [0, 1, 2] = [(0, 1, 1), (0, 1, 1)] := by
   unfold quoE
   simp [o0, o1, o2, a0, a1, a2, <- h2, t0, t1]
 constructor
 · (
 unfold quoS
 rw [hd, al14_reach, he]
 have : nf ltE [((0 : Int), (1 : Int), (1 : Int)), (0, 1, 1)] = [(0, 1, 1)] := by decide
 rw [this]
 have : al14.s0 = 0 := rfl
 rw [this, a0, t0]
 rfl)
 · rw [hd]
   unfold fl
   show [toI [C 0, C 1] (C 0), toI [C 0, C 1] (C 1), toI [C 0, C 1] (C 2)] = _
   rw [<- h2, t0, t1]
end Pl
theorem alive14_any {w : World} {p : Addr} (hG : GErr 0 p w) :
    Calls Tryz.prog 4 #[] w fun e w' => e = .returned (.bool true) /\ Below w.heap.size w w' := by
 have HG := Lib.hid hG
 clear hG
 go_enter Tryz.func4, Tryz.ntmps4
 go_wp2_with fail
 have hS : SlAt encE 3 (w.alloc (.cells #[.int .i64 0, .int .i64 1, .int .i64 1, .int .i64 0, .int .i64 1, .int .i64 2] 57)) (some ⟨w.heap.size, 0, none⟩) w.heap.size 0 al14.es := by
   have h := ((Rws.nil (Below.refl w.heap.size w)).addLit #[.int .i64 0, .int .i64 1, .int .i64 1, .int .i64 0, .int .i64 1, .int .i64 2] 57 (k := 3) (n := 2) (by decide) rfl).slO (enc := encE) (i := 0) (ys := al14.es) rfl lenE rfl
   exact h
 have hB0 := ((Below.refl w.heap.size w).alloc (Nat.le_refl _) (.cells #[.int .i64 0, .int .i64 1, .int .i64 1, .int .i64 0, .int .i64 1, .int .i64 2] 57)).alloc (by simp) (.cells #[.int .i64 3, .int .i64 2, .int .i64 0, .slice (some ⟨w.heap.size, 0, none⟩) 2 2] 24)
 have hS1 := hS.below ((Below.refl _ _).alloc (Nat.le_refl _) (.cells #[.int .i64 3, .int .i64 2, .int .i64 0, .slice (some ⟨w.heap.size, 0, none⟩) 2 2] 24)) (Nat.le_refl _)
 have HQ := Lib.hid (quoStrong_any (s := al14) (n := 3) (c := 2) al14_right rfl (by omega) (by decide) (HG.out.below hB0) hS1)
 have HB0 := Lib.hid hB0
 clear hS hS1 hB0 HG
 refine HQ.out.mono ?_
 unfold QuoStr QuoPost
 rintro e w1 ⟨C, ⟨hbig, hz9⟩, ea, ta, eb, ec, tb, tc, rfl, hes, hto, heb, htb, hB1⟩
 clear hz9
 rw [al14_norm, (al14_quo hbig).1] at hes
 rw [al14_norm, (al14_quo hbig).2] at hto
 rw [al14_norm, (al14_quo hbig).1]
 obtain rfl := hto.ad (by decide)
 have l3 := hto.ci (i := 2) (x := 1) rfl
 have ll := hto.lt (by decide)
 simp only [Nat.zero_add] at l3
 have HB1 := Lib.hid ((HB0.out.trans (hB1.mono (by simp; omega))).alloc (by have := hB1.size; simp at this; omega) (.cells #[.int .i64 2, .int .i64 2, .int .i64 0, .slice ea 1 ec] 24))
 clear hbig hes hto heb htb hB1 HQ HB0
 go_wp2_with fail
 go_ret
 exact ⟨rfl, HB1.out⟩
end Go.Proofs.YtgikimbafakmcaaGreatDoor
namespace Go.Proofs.YtgikimbafakmcaaGreatDoor
open Go.RowKit Pl
theorem flat_slice {α : Type} {enc : α -> List Value} {k : Nat} {w : World} {a : Option Addr} {ad : Addr} {b off : Nat} {xs : List α} (hk : ∀ x, (enc x).length = k) (h1 : ∀ x, ∀ u ∈ enc x, u.oneCell' = true) (hS : SlAt enc k w a b off xs) (ha : a = some ad) :
    (∀ j u, (xs.flatMap enc)[j]? = some u -> w.cell? (ad.add j) = some u) /\ (∀ u ∈ xs.flatMap enc, u.oneCell' = true) /\ (xs.flatMap enc).length = xs.length * k := by
 refine ⟨fun j u hu => ?_, fun u hu => ?_, length_flatMap hk xs⟩
 · (
 have hp : 0 < xs.length := by (
 rcases Nat.eq_zero_or_pos xs.length with h | h
 · rw [List.eq_nil_of_length_eq_zero h] at hu; simp at hu
 · exact h)
 have had := hS.ad hp
 rw [ha] at had
 cases had
 exact slAt_flat hk hS j u hu)
 · obtain ⟨y, _, hy⟩ := List.mem_flatMap.1 hu
   exact h1 y u hy
theorem wpList_appS {P : Program} {w : World} {ops : Array Oper} {rest : List Oper} {o : Oper} {a : Act} {Q : Exit -> Act -> World -> Prop} (hgd : o.guard = none) (s x : Operand) (t : TypeId)
    (ho : o.op = .call { callee := .builtin .append, args := #[s, x], argTypes := #[t, t] })
    {e : TypeId} {size bytes : Nat} {z : Value} (R : IsRow P t e size bytes z) {base : Nat} (hb0 : base <= w.heap.size)
    {v : Value} {n : Nat} {xs : List Value} (hs : a.eval s = v) (hown : w.ownsRow base e size v n xs)
    {α : Type} {enc : α -> List Value} {ys : List α} {sa : Option Addr} {b off c : Nat} (hk : ∀ x, (enc x).length = size) (h1 : ∀ x, ∀ u ∈ enc x, u.oneCell' = true) (hS : SlAt enc size w sa b off ys) (hx : a.eval x = .slice sa ys.length c)
    (hbytes : (n + ys.length) * bytes <= 140737488355328) (hmax : n + ys.length <= maxLen)
    (h : ∀ v' w', w'.ownsRow base e size v' (n + ys.length) (xs ++ ys.flatMap enc) -> w.grownBy w' v.ownBlock -> wpList P ops Q rest (a.put o.dst v') w') : wpList P ops Q (o :: rest) a w := by
 cases sa with
 | some ad =>
   obtain ⟨g1, g2, g3⟩ := flat_slice hk h1 hS rfl
   exact wpList_app (w0 := w) hgd s x t ho R (Below.refl base w) hb0 hs hown ad ys.length c _ hx g3 g1 g2 hbytes hmax (fun v' w' h2 _ h3 => h v' w' h2 h3)
 | none => (
 have h0 : ys = [] := by (
 rcases Nat.eq_zero_or_pos ys.length with h | h
 · exact List.eq_nil_of_length_eq_zero h
 · have := hS.ad h; cases this)
 subst h0
 obtain ⟨i, hi, _⟩ := R.info
 refine wpList_plain hgd fun K hK => ?_
 have hrun : (Builtin.append_ #[t, t] o.type #[v, .slice none 0 c]).run P w = .ok v w := by (
 rcases hown.2 with ⟨rfl, rfl⟩ | ⟨g, cap, cur, rfl, _, _, hnc, _⟩
 · simp [Builtin.append_, run_underlying R.ht, sizeOf, typeInfo, hi, Builtin.lenOf, Builtin.firstCells]
 · simp [Builtin.append_, run_underlying R.ht, sizeOf, typeInfo, hi, Builtin.lenOf, Builtin.firstCells, hnc, storeCells])
 have hx' : a.eval x = .slice none 0 c := hx
 unfold Oper.wp
 simp [execOp, ho, resolve, invoke, builtin, hs, hx', hrun, Result.andThen]
 exact hK _ _ (h v w (by simpa using hown) ⟨rfl, rfl, rfl, Nat.le_refl _, fun _ _ _ => rfl⟩))
end Go.Proofs.YtgikimbafakmcaaGreatDoor
namespace Go.Proofs.YtgikimbafakmcaaGreatDoor
open Go.RowKit Pl
open Lib (hid)
theorem eq_upto' {α : Type} {xs ys : List α} (hl : xs.length = ys.length) (h : ∀ j, j < xs.length -> xs[j]? = ys[j]?) : xs = ys := by
 apply List.ext_getElem?
 intro j
 by_cases hj : j < xs.length
 · exact h j hj
 · rw [List.getElem?_eq_none (by omega), List.getElem?_eq_none (by omega)]
theorem sameEdges_any {a1 a2 : Option Addr} {b1 o1 c1 b2 o2 c2 : Nat} {xs ys : List E} {w : World} (h1 : SlAt encE 3 w a1 b1 o1 xs) (h2 : SlAt encE 3 w a2 b2 o2 ys) (hx : xs.length <= 1000000) (hy : ys.length <= 1000000) :
    Calls Tryz.prog 24 #[.slice a1 xs.length c1, .slice a2 ys.length c2] w fun e w' => e = .returned (.bool (decide (xs = ys))) /\ ∃ n, w' = w.drewN n := by
 by_cases hl : xs.length = ys.length
 · have hlB : ((xs.length : Int) != (ys.length : Int)) = false := by simp [hl]
   have HL := hid hl; clear hl
   go_enter Tryz.func24, Tryz.ntmps24
   go_wp2
   go_loopw [5] (fun i wr => ∃ k m : Nat, k <= xs.length /\ i = .int .i64 k /\ (∀ j, j < k -> xs[j]? = ys[j]?) /\ wr = w.drewN m)
     (fun i _ => xs.length - (intOf i).toNat)
   case atStart => exact ⟨0, 0, Nat.zero_le _, rfl, by intro j hj; omega, rfl⟩
   case round =>
     obtain ⟨k, m, hk, rfl, heq, rfl⟩ := hrel
     have HE := hid heq; clear heq
     by_cases hlt : k < xs.length
     · have hlt2 : k < ys.length := by rw [<- HL.out]; exact hlt
       obtain ⟨x, hxk⟩ := getElem?_of_lt hlt
       obtain ⟨y, hyk⟩ := getElem?_of_lt hlt2
       obtain rfl := h1.ad (by omega)
       obtain rfl := h2.ad (by omega)
       have c0 := h1.e0 hxk; have c1' := h1.e1 hxk; have c2' := h1.e2 hxk
       have d0 := h2.e0 hyk; have d1 := h2.e1 hyk; have d2 := h2.e2 hyk
       have hq := fun w => eqlE x y w
       have hgd := guardE
       have hi1 : (k : Int) < (xs.length : Int) := by omega
       have hi2 : (k : Int) < (ys.length : Int) := by omega
       have HX := hid hxk; have HY := hid hyk
       clear h1 h2 hxk hyk
       by_cases hxy : x = y
       · have hb : decide (x = y) = true := by simp [hxy]
         have HXY := hid hxy; clear hxy
         go_wp2_with fail
         go_quiet (fail)
         go_wp2
         go_roundw
         case rel => exact ⟨k + 1, _, by omega, by go_num, by
           intro j hj
           by_cases hjk : j = k
           · subst hjk; rw [HX.out, HY.out, HXY.out]
           · exact HE.out j (by omega), rfl⟩
         case measure => simp [intOf]; omega
       · have hb : decide (x = y) = false := by simp [hxy]
         have HXY := hid hxy; clear hxy
         go_wp2_with fail
         go_quiet (fail)
         go_wp2
         go_ret
         refine ⟨?_, _, World.drewN_drewN _ _ _⟩
         have : xs ≠ ys := fun e => HXY.out (by have h1 := HX.out; have h2 := HY.out; rw [e, h2] at h1; simpa using h1.symm)
         simp [this]
     · clear h1 h2
       have hkk : k = xs.length := by omega
       go_wp2
       go_ret
       refine ⟨?_, _, rfl⟩
       have : xs = ys := eq_upto' HL.out (by rw [<- hkk]; exact HE.out)
       simp [this]
 · have hlB : ((xs.length : Int) != (ys.length : Int)) = true := by simp; omega
   go_enter Tryz.func24, Tryz.ntmps24
   go_wp2
   go_ret
   have : xs ≠ ys := fun e => hl (by rw [e])
   exact ⟨by simp [this], 0, rfl⟩
theorem sameSystem_yes (st lb s0 : Int) {a1 a2 : Option Addr} {b1 o1 c1 b2 o2 c2 : Nat} {xs : List E} {w : World} (h1 : SlAt encE 3 w a1 b1 o1 xs) (h2 : SlAt encE 3 w a2 b2 o2 xs) (hx : xs.length <= 1000000) :
    Calls Tryz.prog 9 #[.agg #[.int .i64 st, .int .i64 lb, .int .i64 s0, .slice a1 xs.length c1], .agg #[.int .i64 st, .int .i64 lb, .int .i64 s0, .slice a2 xs.length c2]] w fun e w' =>
      e = .returned (.bool true) /\ Below w.heap.size w w' := by
 have e1 : (st == st) = true := by simp
 have e2 : (lb == lb) = true := by simp
 have e3 : (s0 == s0) = true := by simp
 have H1 := hid h1; have H2 := hid h2
 clear h1 h2
 go_enter Tryz.func9, Tryz.ntmps9
 go_wp2_with fail
 have hB := ((Below.refl w.heap.size w).alloc (Nat.le_refl _) (Obj.cells #[.int .i64 st, .int .i64 lb, .int .i64 s0, .slice a1 xs.length c1] 24)).alloc (by simp) (Obj.cells #[.int .i64 st, .int .i64 lb, .int .i64 s0, .slice a2 xs.length c2] 24)
 have HB := hid hB
 clear hB
 refine (sameEdges_any (H1.out.below HB.out (Nat.le_refl _)) (H2.out.below HB.out (Nat.le_refl _)) hx hx).mono ?_
 rintro e w1 ⟨rfl, m, rfl⟩
 simp only [decide_true]
 go_wp2
 go_ret
 exact ⟨rfl, bdrew HB.out⟩
end Go.Proofs.YtgikimbafakmcaaGreatDoor
namespace Go.Proofs.YtgikimbafakmcaaGreatDoor
open Go.RowKit Pl
section
variable {w5 wr w' : World} {O : Nat} {st lb s0 : Int} {v : Value} {es : List E}
end
end Go.Proofs.YtgikimbafakmcaaGreatDoor
namespace Go.Proofs.YtgikimbafakmcaaGreatDoor
open Go.RowKit Pl
section
variable {w0 w : World} {B WB LB NB IB CB n : Nat} {gp : Value} {low num cls : Nat -> Int} {iso : Nat -> Bool} {met found : Int} {ol : List Int} {sl : List E} {vo vs : Value}
end
end Go.Proofs.YtgikimbafakmcaaGreatDoor
namespace Go.Proofs.YtgikimbafakmcaaGreatDoor
open Go.RowKit Pl
section
variable {w0 w : World} {B WB LB NB IB CB n : Nat} {gp : Value} {low num cls : Nat -> Int} {iso : Nat -> Bool} {met found : Int} {sl : List E} {vo vs : Value}
end
end Go.Proofs.YtgikimbafakmcaaGreatDoor
namespace Go.Proofs.YtgikimbafakmcaaGreatDoor
open Go.RowKit Pl
namespace Pl
end Pl
section
variable {w0 w wr : World} {B WB LB NB IB CB n : Nat} {gp : Value} {low num cls : Nat -> Int} {iso : Nat -> Bool} {met found : Int} {ol : List Int} {sl : List E} {vo vs : Value}
end
end Go.Proofs.YtgikimbafakmcaaGreatDoor
namespace Go.Proofs.YtgikimbafakmcaaGreatDoor
open Go.RowKit Pl
section
variable {s : Lts} {n : Nat} {t : TS} {K : List Nat} {nx nx' : Nat -> Nat}
end
end Go.Proofs.YtgikimbafakmcaaGreatDoor
namespace Go.Proofs.YtgikimbafakmcaaGreatDoor
open Go.RowKit Pl
section
variable {w0 wr : World} {B WB LB NB IB CB n : Nat} {gp : Value} {low num cls : Nat -> Int} {iso : Nat -> Bool} {met found : Int} {ol : List Int} {sl0 : List E} {vo vs : Value}
end
end Go.Proofs.YtgikimbafakmcaaGreatDoor
namespace Go.Proofs.YtgikimbafakmcaaGreatDoor
open Go.RowKit Pl
end Go.Proofs.YtgikimbafakmcaaGreatDoor
namespace Go.Proofs.YtgikimbafakmcaaGreatDoor
open Go.RowKit Pl
namespace Pl
end Pl
end Go.Proofs.YtgikimbafakmcaaGreatDoor
namespace Go.Proofs.YtgikimbafakmcaaGreatDoor
open Go.RowKit Pl
theorem sysC {w : World} {B : Nat} {x y z : Int} {v : Value} (h : w.heap[B]? = some (.cells #[.int .i64 x, .int .i64 y, .int .i64 z, v] 24 (0, 0))) :
    w.cell? ⟨B, 0, none⟩ = some (.int .i64 x) /\ w.cell? ⟨B, 1, none⟩ = some (.int .i64 y) /\ w.cell? ⟨B, 2, none⟩ = some (.int .i64 z) /\ w.cell? ⟨B, 3, none⟩ = some v /\ B < w.heap.size := by
 refine ⟨?_, ?_, ?_, ?_, (Array.getElem?_eq_some_iff.1 h).1⟩ <;> simp [World.cell?, h]
theorem sysZ {w : World} {B : Nat} {x y z : Int} {v : Value} (h : w.heap[B]? = some (.cells #[.int .i64 x, .int .i64 y, .int .i64 z, v] 24 (0, 0))) :
    (w.cell? ⟨B, 0, none⟩ = some (.int .i64 x) /\ w.cell? ⟨B, 1, none⟩ = some (.int .i64 y) /\ w.cell? ⟨B, 2, none⟩ = some (.int .i64 z) /\ w.cell? ⟨B, 3, none⟩ = some v /\ B < w.heap.size) /\ w.frozen? ⟨B, 0, none⟩ = false /\ w.frozen? ⟨B, 1, none⟩ = false /\ w.frozen? ⟨B, 2, none⟩ = false /\ w.frozen? ⟨B, 3, none⟩ = false := by
 refine ⟨sysC h, ?_, ?_, ?_, ?_⟩ <;> simp [World.frozen?, h]
end Go.Proofs.YtgikimbafakmcaaGreatDoor

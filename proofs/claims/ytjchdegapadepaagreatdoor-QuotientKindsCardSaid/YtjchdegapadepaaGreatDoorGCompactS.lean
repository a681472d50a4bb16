/-
  Lemmas.
-/
import Derived.Test.YtjchdegapadepaaGreatDoorGParD
import Derived.Test.YtjchdegapadepaaGreatDoorShelf
import Derived.Test.YtjchdegapadepaaGreatDoorGOrder
set_option maxRecDepth 100000
namespace Go.Proofs.YtjchdegapadepaaGreatDoor
open Go.RowKit Pl
open Lib (hid)
theorem eqlS (x y : S) (w : World) : (binOp .eql 80 (.agg #[.int .i64 x.1, .int .i64 x.2]) (.agg #[.int .i64 y.1, .int .i64 y.2])).run Tryz.prog w = .ok (.bool (decide (x = y))) w := by
 have u3 := Tryz.underlying3
 have a3 := Tryz.isAgg3
 have z3 := Tryz.sizeOf3
 have hS : Tryz.prog.underlying 80 = some (.struct (Tryz.prog.fieldsOf 80)) := by kernel_rfl
 have hp : Tryz.prog.stoodInHeld 80 = false := by kernel_rfl
 rw [run_eql_struct, show (10000 : Nat) = 9999 + 1 from rfl, run_equalIn_agg w 9999 80 _ _ hS hp]
 simp only [Program.fieldsOf, Tryz.underlying80]
 go_simp
 obtain ⟨x1, x2⟩ := x; obtain ⟨y1, y2⟩ := y
 by_cases h1 : x1 = y1 <;> by_cases h2 : x2 = y2 <;> simp [h1, h2]
theorem neqS (x y : S) (w : World) : (binOp .neq 80 (.agg #[.int .i64 x.1, .int .i64 x.2]) (.agg #[.int .i64 y.1, .int .i64 y.2])).run Tryz.prog w = .ok (.bool (!decide (x = y))) w := by
 have h := eqlS x y w
 rw [run_eql_struct] at h
 rw [run_neq_struct]
 cases hr : (Op.equalIn 10000 80 (.agg #[.int .i64 x.1, .int .i64 x.2]) (.agg #[.int .i64 y.1, .int .i64 y.2])).run Tryz.prog w with
 | ok b w' => rw [hr] at h; simp [Result.andThen] at h ⊢; exact ⟨h.1, h.2⟩
 | halt b w' => rw [hr] at h; simp [Result.andThen] at h
theorem guardS : Tryz.prog.eqGuardType Tryz.prog.depth 80 = false := by kernel_rfl
theorem set2 {l : List Value} {i : Nat} {a b : Value} (h : i * 2 + 2 <= l.length) : (l.set (i * 2) a).set (i * 2 + 1) b = l.take (i * 2) ++ [a, b] ++ l.drop (i * 2 + 2) := by
 apply List.ext_getElem?
 intro j
 simp only [List.getElem?_set, List.length_set, List.append_assoc]
 by_cases h1 : j < i * 2
 · rw [if_neg (by omega), if_neg (by omega), List.getElem?_append_left (by simp; omega), List.getElem?_take, if_pos h1]
 · (
 rw [List.getElem?_append_right (by simp; omega)]
 simp only [List.length_take, Nat.min_eq_left (show i * 2 <= l.length by omega)]
 by_cases h2 : j = i * 2
 · subst h2; rw [if_neg (by omega), if_pos rfl, if_pos (by omega)]; simp
 · (
 by_cases h3 : j = i * 2 + 1
 · subst h3; rw [if_pos rfl, if_pos (by omega)]; rw [show i * 2 + 1 - i * 2 = 1 by omega]; rfl
 · rw [if_neg (by omega), if_neg (by omega)]
   rw [show j - i * 2 = (j - (i * 2 + 2)) + 1 + 1 by omega]
   simp only [List.cons_append, List.nil_append, List.getElem?_cons_succ, List.getElem?_drop]
   congr 1; omega))
theorem ownS_set {w : World} {base g n cap : Nat} {e : TypeId} {xs : List S} (h : w.ownsRow base e 2 (.slice (some ⟨g, 0, none⟩) n cap) xs.length (xs.flatMap encS)) (hn : n = xs.length) (i : Nat) (x : S) (hi : i < xs.length) :
    ((w.setCell ⟨g, i * 2, none⟩ (.int .i64 x.1)).setCell ⟨g, i * 2 + 1, none⟩ (.int .i64 x.2)).ownsRow base e 2 (.slice (some ⟨g, 0, none⟩) n cap) (xs.set i x).length ((xs.set i x).flatMap encS) := by
 subst hn
 have h1 := (h.stored (i * 2) (.int .i64 x.1)).1.stored (i * 2 + 1) (.int .i64 x.2)
 rw [set2 (by rw [j0b k1c]; omega)] at h1
 replace h1 := h1.1
 rw [k1l k1c xs i x hi, List.length_set]
 exact h1
theorem j2h {w0 w : World} {B g i : Nat} {a b : Value} (h : Below B w0 w) (hg : B <= g) : Below B w0 ((w.setCell ⟨g, i, none⟩ a).setCell ⟨g, i + 1, none⟩ b) :=
  (h.setCell hg _).setCell hg _
theorem clearS {w : World} {base g n cap : Nat} {ys : List S} (h : w.ownsRow base 80 2 (.slice (some ⟨g, 0, none⟩) n cap) ys.length (ys.flatMap encS)) (hn : n = ys.length) (kk c : Nat) (hk : kk < n) :
    ∃ w1, (∀ ty, (Builtin.clear_ #[60] ty #[.slice (some ⟨g, kk * 2, none⟩) (n - kk) c]).run Tryz.prog w = .ok (.tuple #[]) w1) /\
      w1.ownsRow base 80 2 (.slice (some ⟨g, 0, none⟩) kk cap) kk ((ys.take kk).flatMap encS) /\ ∀ {w0 : World}, Below base w0 w -> Below base w0 w1 := by
 subst hn
 rcases h.2 with ⟨h', _⟩ | ⟨g', cap', cur, h', hb, hg, hnc, hcm, hcs, htake⟩
 · simp at h'
 · (
 simp only [Value.slice.injEq, Option.some.injEq, Addr.mk.injEq, and_true, true_and] at h'
 obtain ⟨rfl, rfl⟩ := h'
 obtain ⟨m, hm⟩ : ∃ m, ys.length - kk = m + 1 := ⟨ys.length - kk - 1, by omega⟩
 rw [hm]
 obtain ⟨zs, hzs⟩ : ∃ zs, zs = (Builtin.zeroCells #[.int .i64 0, .int .i64 0] (m + 1)).toList := ⟨_, rfl⟩
 have hz : zs.length = (m + 1) * 2 := by rw [hzs, Array.length_toList, size_zeroCells]; rfl
 have hst := run_storeCells_at Tryz.prog g (kk * 2) 80 zs 0 cur w hg (by rw [hz]; omega) (by rw [hzs]; exact x0h _ _ (by simp [Value.oneCell']))
 simp only [Nat.add_zero] at hst
 obtain ⟨F, hF⟩ : ∃ F, F = (cur.toList.take (kk * 2) ++ zs ++ cur.toList.drop (kk * 2 + zs.length)).toArray := ⟨_, rfl⟩
 rw [<- hF] at hst
 refine ⟨w.setRow g F, fun ty => ?_, ⟨?_, .inr ⟨g, cap, F, rfl, hb, setRow_heap w g cur _ _ _ hg, by omega, hcm, ?_, ?_⟩⟩, fun {w0} hB => ?_⟩
 · rw [hzs] at hst
   simp only [Builtin.clear_]
   simp [run_underlying Tryz.underlying60, Value.cells, hst]
 · rw [j0b k1c, List.length_take, Nat.min_eq_left (by omega)]
 · rw [hF]
   simp only [List.size_toArray, List.length_append, List.length_take, List.length_drop, Array.length_toList, hz, hcs]
   omega
 · (
 rw [hF, List.append_assoc, List.take_append_of_le_length (by simp; omega), List.take_take, Nat.min_self]
 have : (cur.toList.take (ys.length * 2)).take (kk * 2) = ((ys.flatMap encS)).take (kk * 2) := by rw [htake]
 rw [List.take_take, Nat.min_eq_left (by omega)] at this
 rw [this]
 have h2 := List.take_append_drop kk ys
 have h3 : ys.flatMap encS = (ys.take kk).flatMap encS ++ (ys.drop kk).flatMap encS := by rw [<- List.flatMap_append, h2]
 rw [h3, List.take_append_of_le_length (by rw [j0b k1c]; simp; omega), List.take_of_length_le (by rw [j0b k1c]; simp; omega)])
 · exact hB.trans ⟨rfl, rfl, rfl, by simp [World.setRow], fun k hk => setRow_other w g k _ (by omega)⟩)
set_option maxHeartbeats 1000000 in
theorem q1x {g n cap base : Nat} {xs : List S} {w : World} (hown : w.ownsRow base 80 2 (.slice (some ⟨g, 0, none⟩) n cap) xs.length (xs.flatMap encS)) (hn : n = xs.length) (hl : xs.length <= 1000000) (hbg : base <= g) (hcap : n <= cap) :
    Calls Tryz.prog 137 #[.slice (some ⟨g, 0, none⟩) n cap] w fun e w' => ∃ m, e = .returned (.slice (some ⟨g, 0, none⟩) m cap) /\ w'.ownsRow base 80 2 (.slice (some ⟨g, 0, none⟩) m cap) (cmpt xs).length ((cmpt xs).flatMap encS) /\ m = (cmpt xs).length /\ Below base w w' := by
 subst hn
 by_cases h2 : xs.length < 2
 · have hc : cmpt xs = xs := by
     match xs, h2 with
     | [], _ => rfl
     | [x], _ => rfl
   have H := hid hc; have HO := hid hown; clear hc hown
   go_enter Tryz.func137, Tryz.ntmps137
   go_wp2
   go_ret
   exact ⟨_, rfl, by rw [H.out]; exact HO.out, by rw [H.out], Below.refl _ _⟩
 · have HO := hid hown; clear hown
   have hbase := HO.out.lt g rfl
   go_enter Tryz.func137, Tryz.ntmps137
   go_wp2
   go_loopw [3] (fun i wr => ∃ q m : Nat, q + 1 <= xs.length /\ i = .int .i64 (q + 1) /\ cmpt (xs.take (q + 1)) = xs.take (q + 1) /\ wr = w.drewN m)
     (fun i _ => xs.length - (intOf i).toNat)
   case atStart => exact ⟨0, 0, by omega, rfl, by
     match xs, h2 with
     | x :: l, _ => rfl
     | [], h2 => simp at h2, rfl⟩
   case round =>
     obtain ⟨q, m, hq, rfl, hcm, rfl⟩ := hrel
     have HC := hid hcm; clear hcm
     by_cases hlt : q + 1 < xs.length
     · obtain ⟨x, hx⟩ := j0a (show q < xs.length by omega)
       obtain ⟨y, hy⟩ := j0a hlt
       have hS := q0t k1c HO.out
       have c0 := hS.s0 hx; have c1 := hS.s1 hx
       have d0 := hS.s0 hy; have d1 := hS.s1 hy
       simp only [Nat.zero_add] at c0 c1 d0 d1
       have heq := fun w => eqlS y x w
       have hgd := guardS
       have HX := hid hx; have HY := hid hy
       clear hS hx hy
       have hi1 : (q : Int) + 1 < (xs.length : Int) := by omega
       have hi2 : (q : Int) < (xs.length : Int) := by omega
       by_cases hxy : y = x
       · have hb : decide (y = x) = true := by simp [hxy]
         have HE := hid hxy; clear hxy
         go_wp2_with fail
         go_quiet (fail)
         go_wp2
         have hHk : cmpt (xs.take (q + 2)) = xs.take (q + 1) := by
           rw [p0a HX.out HY.out, HC.out, if_pos HE.out.symm, List.append_nil]
         have HK := hid hHk; clear hHk
         clear c0 c1 d0 d1 heq hb
         go_loopw [3, 5] (fun i3 i5 wr => ∃ (kk r : Nat) (ys : List S), i3 = .int .i64 kk /\ i5 = .int .i64 (r + 1) /\ q + 1 + r + 1 <= xs.length /\ ys.length = xs.length /\
             wr.ownsRow base 80 2 (.slice (some ⟨g, 0, none⟩) xs.length cap) ys.length (ys.flatMap encS) /\ ys.take kk = cmpt (xs.take (q + 1 + r + 1)) /\ kk <= q + 1 + r /\ (∀ j, q + 1 + r <= j -> ys[j]? = xs[j]?) /\ Below base w wr)
           (fun _ i5 _ => xs.length - (intOf i5).toNat)
         case atStart => exact ⟨q + 1, 0, xs, by go_num, rfl, by omega, rfl, HO.out, HK.out.symm, by omega, fun _ _ => rfl, below_drewN (Below.refl _ _) _⟩
         case round =>
           obtain ⟨kk, r, ys, rfl, rfl, hr, hyl, hown, htk, hkk, hsame, hB⟩ := hrel
           have hsz := hB.size
           have HT := hid htk; have HS := hid hsame; have HW := hid hown; have HYL := hid hyl
           clear htk hsame hown hyl
           by_cases hrt : q + 1 + r + 1 < xs.length
           · obtain ⟨u, hu⟩ := j0a (show q + 1 + r < xs.length by omega)
             obtain ⟨v, hv⟩ := j0a hrt
             have hS := q0t k1c (show wr.ownsRow base 80 2 (.slice (some ⟨g, 0, none⟩) xs.length cap) ys.length (ys.flatMap encS) from HW.out)
             have hu' : ys[q + 1 + r]? = some u := by rw [HS.out _ (Nat.le_refl _), hu]
             have hv' : ys[q + 1 + r + 1]? = some v := by rw [HS.out _ (by omega), hv]
             have c0 := hS.s0 hu'; have c1 := hS.s1 hu'
             have d0 := hS.s0 hv'; have d1 := hS.s1 hv'
             simp only [Nat.zero_add] at c0 c1 d0 d1
             rw [show (q + 1 + r) * 2 = (q + 1) * 2 + r * 2 by omega] at c0 c1
             rw [show (q + 1 + r + 1) * 2 = (q + 1) * 2 + (r + 1) * 2 by omega] at d0 d1
             have heq := fun w => neqS v u w
             have HU := hid hu; have HV := hid hv
             have hkl : kk < ys.length := by rw [HYL.out]; omega
             obtain ⟨z, hz⟩ := j0a hkl
             have k0 := hS.s0 hz; have k1 := hS.s1 hz
             simp only [Nat.zero_add] at k0 k1
             have f0 : wr.frozen? ⟨g, kk * 2, none⟩ = false := k0s HW.out _
             have f1 : wr.frozen? ⟨g, kk * 2 + 1, none⟩ = false := k0s HW.out _
             clear hS hu hv hu' hv' hz
             have hi3 : (kk : Int) < (xs.length : Int) := by omega
             have hi4 : (r : Int) + 1 < (xs.length : Int) - (q + 1) := by omega
             have hi5 : (r : Int) < (xs.length : Int) - (q + 1) := by omega
             by_cases huv : v = u
             · have hb : decide (v = u) = true := by simp [huv]
               have HE := hid huv; clear huv
               go_wp2_with fail
               go_quiet (fail)
               go_wp2
               go_roundw
               case rel => exact ⟨kk, r + 1, ys, rfl, by go_num, by omega, HYL.out, HW.out, by
                 rw [HT.out, show q + 1 + (r + 1) + 1 = q + 1 + r + 2 by omega, p0a HU.out HV.out, if_pos HE.out.symm, List.append_nil], by omega, fun j hj => HS.out j (by omega), below_drewN hB _⟩
               case measure => simp [intOf]; omega
             · have hb : decide (v = u) = false := by simp [huv]
               have HE := hid huv; clear huv
               go_wp2_with fail
               go_quiet (fail)
               go_wp2
               go_roundw
               case rel =>
                 refine ⟨kk + 1, r + 1, ys.set kk v, by go_num, by go_num, by omega, by rw [List.length_set]; exact HYL.out, ?_, by
                   rw [show q + 1 + (r + 1) + 1 = q + 1 + r + 2 by omega, p0a HU.out HV.out, if_neg (fun e => HE.out e.symm), <- HT.out]
                   rw [take_snoc (i := kk) (x := v) (by rw [List.getElem?_set, if_pos rfl, if_pos hkl]), List.take_set_of_le (Nat.le_refl _)], by omega, fun j hj => by
                   rw [List.getElem?_set, if_neg (by omega)]; exact HS.out j (by omega), ?_⟩
                 · exact ownS_set (w := wr.drewN nq) (x := v) HW.out HYL.out.symm kk hkl
                 · exact j2h (below_drewN hB _) hbg
               case measure => simp [intOf]; omega
           · have hend : q + 1 + r + 1 = xs.length := by omega
             obtain ⟨w1, hcl, hown1, hB1⟩ := clearS (show wr.ownsRow base 80 2 (.slice (some ⟨g, 0, none⟩) xs.length cap) ys.length (ys.flatMap encS) from HW.out) HYL.out.symm kk (cap - kk) (by omega)
             have hlen : (ys.take kk).length = kk := by rw [List.length_take, HYL.out]; omega
             have HE2 := hid hend; have HO1 := hid hown1; have HLN := hid hlen; have HB1 := hB1 hB
             clear hend hown1 hlen hB1
             have hk1 : (kk : Int) < (cap : Int) := by omega
             go_wp2
             go_ret
             have ht := HT.out
             rw [HE2.out, List.take_of_length_le (Nat.le_refl _)] at ht
             exact ⟨kk, rfl, by rw [<- ht, HLN.out]; exact HO1.out, by rw [<- ht, HLN.out], HB1⟩
       · have hb : decide (y = x) = false := by simp [hxy]
         have HE := hid hxy; clear hxy
         go_wp2_with fail
         go_quiet (fail)
         go_wp2
         go_roundw
         case rel => exact ⟨q + 1, _, by omega, by go_num, by
           rw [show q + 1 + 1 = q + 2 by omega, p0a HX.out HY.out, if_neg (fun e => HE.out e.symm), HC.out, take_snoc HY.out], rfl⟩
         case measure => simp [intOf]; omega
     · have hend : xs.take (q + 1) = xs := List.take_of_length_le (by omega)
       have H := hid hend; clear hend
       go_wp2
       go_ret
       have hc := HC.out
       rw [H.out] at hc
       exact ⟨_, rfl, by rw [hc]; exact HO.out, by rw [hc], below_drewN (Below.refl _ _) _⟩
end Go.Proofs.YtjchdegapadepaaGreatDoor
namespace Go.Proofs.YtjchdegapadepaaGreatDoor
open Go.RowKit Pl Go.Sort Go.Shelf Go.Lib
open Lib (hid)
def cmpS (a b : S) : Int := orL [cmpI a.1 b.1, cmpI a.2 b.2]
theorem k0x (x y : S) : ltOf cmpS x y = ltS x y := by
 rw [Bool.eq_iff_iff, k0q]
 unfold ltOf cmpS orL orL orL cmpI
 simp only [decide_eq_true_eq]
 repeat' split
 all_goals omega
theorem swoS : SWO (ltOf cmpS) where
  irrefl x := by rw [k0x]; exact stoS.irrefl x
  trans x y z := by rw [k0x, k0x, k0x]; exact stoS.trans x y z
  ntrans x y z := by
    rw [k0x, k0x, k0x]
    simp only [Bool.eq_false_iff, ne_eq, k0q]
    omega
theorem k2f (cf : S -> S -> Int) (hO : SWO (ltOf cf)) (f : Nat) (eg : ∀ args w, (callFunc f args).run Tryz.prog w = .ok (.enter f args) w)
    (hcmp : ∀ (x y : S) (W : World), Calls Tryz.prog f #[.agg #[.int .i64 x.1, .int .i64 x.2], .agg #[.int .i64 y.1, .int .i64 y.2]] W fun e w' => e = .returned (.int .i64 (cf x y)) /\ ∃ q os', w' = Go.Sort.grow (W.drewN q) os')
    {base g n cap : Nat} {xs : List S} {w : World} (h : w.ownsRow base 80 2 (.slice (some ⟨g, 0, none⟩) n cap) xs.length (xs.flatMap encS)) (hn : n = xs.length) (hl : xs.length <= 1000000) :
    Calls Tryz.prog 134 #[.slice (some ⟨g, 0, none⟩) n cap, .func (.func f) #[] #[]] w fun e w' => e = .returned (.tuple #[]) /\
      ∃ ys : List S, ys.Perm xs /\ ys.Pairwise (fun a b => ltOf cf b a = false) /\ w'.ownsRow base 80 2 (.slice (some ⟨g, 0, none⟩) n cap) n (ys.flatMap encS) /\ (∀ {w0 : World}, Below base w0 w -> Below base w0 w') := by
 subst hn
 have hlt := h.lt g rfl
 have hcon := AnyQ.slices_SortFunc Tryz.sortS 2 Tryz.isAgg80 Tryz.sizeOf80 encS k1c (fun x v hv => by simp [encS] at hv; rcases hv with rfl | rfl <;> rfl) cf hO f #[] g 0 cap xs.toArray w eg
   (fun m os dk _ x y => hcmp x y _) (u0t k1c (by decide) h) hlt.2 (by simpa using by omega)
 change Calls Tryz.prog 134 _ _ _ at hcon
 refine hcon.mono ?_
 rintro e w' ⟨rfl, d', m, os, hp, hs, rfl⟩
 have hsz : d'.size = xs.length := by simpa using hp.1
 refine ⟨rfl, d'.toList, ?_, ?_, ?_, fun hB => v0n hB hlt.1 hlt.2⟩
 · have := hp.2.2
   simp only [Array.toList_extract, List.size_toArray, List.extract_eq_take_drop, Nat.sub_zero, List.drop_zero] at this
   rw [List.take_of_length_le (by simp [hsz]), List.take_of_length_le (Nat.le_refl _)] at this
   exact this
 · rw [List.pairwise_iff_getElem]
   intro i j hi hj hij
   have := hs i j (Nat.zero_le _) hij (by simpa [<- hsz] using hj)
   rw [getElem!_pos _ _ (by simpa using hj), getElem!_pos _ _ (by simpa using hi)] at this
   simpa using this
 · have := q0j (m := m) (os := os) (d := d') k1c (by decide) h hsz
   simpa using this
theorem x1n (cf : S -> S -> Int) (hO : SWO (ltOf cf)) (f : Nat) (eg : ∀ args w, (callFunc f args).run Tryz.prog w = .ok (.enter f args) w)
    (hcmp : ∀ (x y : S) (W : World), Calls Tryz.prog f #[.agg #[.int .i64 x.1, .int .i64 x.2], .agg #[.int .i64 y.1, .int .i64 y.2]] W fun e w' => e = .returned (.int .i64 (cf x y)) /\ ∃ q os', w' = Go.Sort.grow (W.drewN q) os')
    {base : Nat} {v : Value} {xs : List S} {w : World} (h : w.ownsRow base 80 2 v xs.length (xs.flatMap encS)) (hl : xs.length <= 1000000) :
    Calls Tryz.prog 134 #[v, .func (.func f) #[] #[]] w fun e w' => e = .returned (.tuple #[]) /\
      ∃ ys : List S, ys.Perm xs /\ ys.Pairwise (fun a b => ltOf cf b a = false) /\ w'.ownsRow base 80 2 v ys.length (ys.flatMap encS) /\ (∀ {w0 : World}, Below base w0 w -> Below base w0 w') := by
 rcases h.2 with ⟨rfl, hn⟩ | ⟨g, cap, cur, rfl, r⟩
 · (
 have hx : xs = [] := List.eq_nil_of_length_eq_zero hn
 subst hx
 have hcon := AnyF.slices_SortFunc_none Tryz.sortS none 0 (.func (.func f) #[] #[]) w
 change Calls Tryz.prog 134 _ _ _ at hcon
 refine hcon.mono ?_
 rintro e w' ⟨rfl, rfl⟩
 exact ⟨rfl, [], List.Perm.refl _, List.Pairwise.nil, h, fun hB => hB⟩)
 · refine (k2f cf hO f eg hcmp h rfl hl).mono ?_
   rintro e w' ⟨rfl, ys, hp, hs, ho, hB⟩
   exact ⟨rfl, ys, hp, hs, by rw [hp.length_eq]; exact ho, hB⟩
theorem q1w (w : World) : Calls Tryz.prog 137 #[.slice none 0 0] w fun e w' => e = .returned (.slice none 0 0) /\ w = w' := by
 go_enter Tryz.func137, Tryz.ntmps137
 go_wp2
 go_ret
 exact ⟨rfl, rfl⟩
theorem u1u {base : Nat} {v : Value} {xs : List S} {w : World} (h : w.ownsRow base 80 2 v xs.length (xs.flatMap encS)) (hl : xs.length <= 1000000) :
    Calls Tryz.prog 137 #[v] w fun e w' => ∃ v', e = .returned v' /\ w'.ownsRow base 80 2 v' (cmpt xs).length ((cmpt xs).flatMap encS) /\ (∀ {w0 : World}, Below base w0 w -> Below base w0 w') := by
 rcases h.2 with ⟨rfl, hn⟩ | ⟨g, cap, cur, rfl, hbg, hg, hnc, r⟩
 · have hx : xs = [] := List.eq_nil_of_length_eq_zero hn
   subst hx
   refine (q1w w).mono ?_
   rintro e w' ⟨rfl, rfl⟩
   exact ⟨_, rfl, h, fun hB => hB⟩
 · refine (q1x h rfl hl hbg hnc).mono ?_
   rintro e w' ⟨m, rfl, ho, rfl, hB⟩
   exact ⟨_, rfl, ho, fun hB0 => hB0.trans hB⟩
def cmpL (xs ys : List Int) : Int := orL (List.zipWith cmpI xs ys)
theorem q1v {a a2 : Option Addr} {b off c b2 off2 c2 n : Nat} {xs ys : List Int} {w : World} (h : SlAt encI 1 w a b off xs) (h2 : SlAt encI 1 w a2 b2 off2 ys) (hx : xs.length = n) (hy : ys.length = n) (hl : n <= 1000000) :
    Calls Tryz.prog 136 #[.slice a n c, .slice a2 n c2] w fun e w' => e = .returned (.int .i64 (cmpL xs ys)) /\ w = w' := by
 have HX := hid hx; have HY := hid hy
 have HZL : Hid ((List.zipWith cmpI xs ys).length = n) := hid (by simp [hx, hy])
 go_enter Tryz.func136, Tryz.ntmps136
 clear hx hy
 go_wp2
 go_loop [5, 6, 7, 8, 11] (fun _ _ _ _ i => ∃ k : Nat, k <= n /\ i = .int .i64 k /\ (∀ j, j < k -> (List.zipWith cmpI xs ys)[j]? = some 0)) (fun _ _ _ _ i => n - (intOf i).toNat)
 case atStart => exact ⟨0, Nat.zero_le _, rfl, by intro j hj; omega⟩
 case round => (
 obtain ⟨k, hk, rfl, hz⟩ := hrel
 have HZ := hid hz; clear hz
 by_cases hlt : k < n
 · (
 obtain ⟨x, hxk⟩ := j0a (xs := xs) (i := k) (by have := HX.out; omega)
 obtain ⟨y, hyk⟩ := j0a (xs := ys) (i := k) (by have := HY.out; omega)
 obtain rfl := h.ad (by have := HX.out; omega)
 obtain rfl := h2.ad (by have := HY.out; omega)
 have hc := h.ci hxk
 have hc2 := h2.ci hyk
 have HXK : Hid ((List.zipWith cmpI xs ys)[k]? = some (cmpI x y)) := hid (by rw [List.getElem?_zipWith, hxk, hyk])
 have hkI : (k : Int) < (n : Int) := by omega
 have hkI2 : ¬ (n : Int) <= (k : Int) := by omega
 have hkd : decide ((n : Int) <= (k : Int)) = false := by simp; omega
 clear h h2 hxk hyk
 obtain ⟨z, hz⟩ : ∃ z, z = cmpI x y := ⟨_, rfl⟩
 have HC := hid (x0e x y w)
 rw [<- hz] at HC HXK
 clear hz
 by_cases h0 : z = 0
 · (
 subst h0
 go_wp2_with (go_at_call 72; refine HC.out.mono ?_; rintro e w' ⟨rfl, rfl⟩)
 go_round
 case rel => exact ⟨k + 1, by omega, by go_num, by (
 intro j hj
 by_cases hjk : j = k
 · subst hjk; exact HXK.out
 · exact HZ.out j (by omega))⟩
 case measure => simp [intOf]; omega)
 · have hb : (z != 0) = true := by simp [h0]
   have H0 := hid h0; clear h0
   go_wp2_with (go_at_call 72; refine HC.out.mono ?_; rintro e w' ⟨rfl, rfl⟩)
   go_ret
   exact ⟨k2q (orL_at HZ.out HXK.out H0.out).symm, rfl⟩)
 · clear h h2
   obtain rfl : k = n := by omega
   go_wp2
   go_ret
   exact ⟨k2q (z1i (fun j hj => HZ.out j (by rw [<- HZL.out]; exact hj))).symm, rfl⟩)
theorem p1g {w : World} {n : Nat} {x y : Int} (h0 : w.cell? ⟨n, 0, none⟩ = some (.int .i64 x)) (h1 : w.cell? ⟨n, 1, none⟩ = some (.int .i64 y)) :
    SlAt encI 1 w (some ⟨n, 0, none⟩) n 0 [x, y] where
  ad _ := rfl
  lt _ := World.block_lt_of_cell? _ _ h0
  cell := by
    intro i v hv j u hu
    match j, hu with
    | 0, hu =>
      simp [encI] at hu; subst hu
      match i, hv with
      | 0, hv => simp at hv; subst hv; exact h0
      | 1, hv => simp at hv; subst hv; exact h1
theorem p1e (x y : S) (w : World) : Calls Tryz.prog 135 #[.agg #[.int .i64 x.1, .int .i64 x.2], .agg #[.int .i64 y.1, .int .i64 y.2]] w fun e w' => e = .returned (.int .i64 (cmpS x y)) /\ ∃ q os', w' = Go.Sort.grow (w.drewN q) os' := by
 have hcm : cmpS x y = cmpL [x.1, x.2] [y.1, y.2] := rfl
 rw [hcm]
 obtain ⟨x1, x2⟩ := x; obtain ⟨y1, y2⟩ := y
 simp only
 go_enter Tryz.func135, Tryz.ntmps135
 go_wp2_with fail
 refine (q1v (n := 2) (p1g (x := x1) (y := x2) (by simp [go_sem]) (by simp [go_sem])) (p1g (x := y1) (y := y2) (by simp [go_sem]) (by simp [go_sem])) rfl rfl (by omega)).mono ?_
 rintro e w' ⟨rfl, rfl⟩
 go_wp2
 go_ret
 exact ⟨rfl, 0, _, by rw [Go.Sort.alloc_eq_grow, Go.Sort.alloc_eq_grow, Go.Sort.alloc_eq_grow, Go.Sort.alloc_eq_grow, Go.Sort.grow_grow, Go.Sort.grow_grow, Go.Sort.grow_grow]; rfl⟩
theorem x1m {base : Nat} {v : Value} {xs : List S} {w : World} (h : w.ownsRow base 80 2 v xs.length (xs.flatMap encS)) (hl : xs.length <= 1000000) :
    Calls Tryz.prog 108 #[v] w fun e w' => ∃ v', e = .returned v' /\ w'.ownsRow base 80 2 v' (nf ltS xs).length ((nf ltS xs).flatMap encS) /\ (∀ {w0 : World}, Below base w0 w -> Below base w0 w') := by
 have eg : ∀ args w, (callFunc 135 args).run Tryz.prog w = .ok (.enter 135 args) w := enters_of Tryz.func135 (by kernel_rfl) rfl
 have HE := hid eg; clear eg
 have HO := hid h
 clear h
 go_enter Tryz.func108, Tryz.ntmps108
 go_wp2_with fail
 refine (x1n cmpS swoS 135 HE.out (fun x y W => p1e x y W) HO.out hl).mono ?_
 rintro e w2 ⟨rfl, ys, hp, hs, hown, hB2⟩
 have hl2 : ys.length <= 1000000 := by rw [hp.length_eq]; exact hl
 have hfin : cmpt ys = nf ltS xs := by
   refine u0z stoS ?_ (fun x => hp.mem_iff)
   exact hs.imp (fun {a b} h => by rw [k0x] at h; exact h)
 have HF := hid hfin
 have HO2 := hid hown
 have HB2 : Hid (∀ {w0 : World}, Below base w0 w -> Below base w0 w2) := hid hB2
 clear hp hs hfin hown hB2
 go_wp2_with (go_at_call 137; refine (u1u HO2.out hl2).mono ?_; rintro e w3 ⟨v3, rfl, hown3, hB4⟩)
 go_ret
 exact ⟨_, rfl, by rw [<- HF.out]; exact hown3, fun hB => hB4 (HB2.out hB)⟩
end Go.Proofs.YtjchdegapadepaaGreatDoor
